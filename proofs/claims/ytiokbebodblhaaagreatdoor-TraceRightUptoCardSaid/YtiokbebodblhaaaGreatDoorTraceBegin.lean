/-
  Beginnings, in plain Lean: a beginning of what may have happened may have happened; events of nobody's change nothing.
-/
import Derived.Test.YtiokbebodblhaaaGreatDoorTPlain
namespace Go.Proofs.YtiokbebodblhaaaGreatDoor.TraceP
open Go

/-- The first event that can't have happened so; -1: none. -/
noncomputable def rightL (l : List Evt) : Int := rightP PSt.new 0 l
theorem rightL_both (l : List Evt) : rightL l = rightR [] l := right_both l Sim.new
def noT : Txt := [47, 110, 111, 98, 111, 100, 121, 39, 115]
def noN : Int := 549755813888
/-- Two states that part only in what is nobody's. -/
structure Near (s u : PSt) : Prop where
  tick : s.tick = u.tick
  obj : ∀ o, o ≠ noT → s.obj o = u.obj o
  wt : ∀ a b, a ≠ noN → s.wt a b = u.wt a b
  fl : ∀ a b, a ≠ noN → s.fl a b = u.fl a b
  fe : ∀ a, a ≠ noN → s.fe a = u.fe a
theorem Near.good {s u : PSt} (h : Near s u) {e : Evt} (ho : e.object ≠ noT) (hn : e.node ≠ noN) : goodB s e = goodB u e := by
  unfold goodB mayB
  rw [h.tick, h.obj _ ho, h.wt _ _ hn, h.fl _ _ hn, h.fe _ hn]
def objF (f : Txt → Nat) (e : Evt) : Txt → Nat := if e.kind = 1 then setO f e.object (if e.met.len = -1 then 2 else 1) else if e.kind = 3 then setO f e.object 1 else if e.kind = 4 then setO f e.object 0 else f
def wtF (f : Int → Int → Nat) (e : Evt) : Int → Int → Nat := if e.kind = 16 then dropP f e.node else if e.kind = 6 then setP f e.node e.who 1 else if e.kind = 8 then setP f e.node e.who 2 else if e.kind = 1 ∨ e.kind = 2 ∨ e.kind = 3 ∨ e.kind = 4 ∨ e.kind = 5 ∨ e.kind = 9 ∨ e.kind = 11 ∨ e.kind = 12 ∨ e.kind = 13 ∨ e.kind = 14 ∨ e.kind = 15 then f else setP f e.node e.who 0
def flF (f : Int → Int → Nat) (e : Evt) : Int → Int → Nat := if e.kind = 16 then dropP f e.node else if e.kind = 11 then setP f e.node e.who 1 else if e.kind = 12 then setP f e.node e.who (if e.rep.status ≠ 200 ∧ e.rep.status ≠ 206 then 0 else 2) else if e.kind = 14 ∨ e.kind = 15 then setP f e.node e.who 0 else f
def feF (f : Int → Int) (e : Evt) : Int → Int := if e.kind = 16 then setN f e.node 0 else if e.kind = 11 then setN f e.node e.who else f
theorem may_obj (s : PSt) (e : Evt) : (mayS s e).obj = objF s.obj e := by
  unfold mayS objF
  simp only [apply_ite PSt.obj]
  by_cases h1 : e.kind = 1
  · simp [h1]
  by_cases h2 : e.kind = 2
  · simp [h2]
  by_cases h3 : e.kind = 3
  · simp [h3]
  by_cases h4 : e.kind = 4
  · simp [h4]
  by_cases h5 : e.kind = 5
  · simp [h5]
  by_cases h16 : e.kind = 16
  · simp [h16]
  by_cases h11 : e.kind = 11
  · simp [h11]
  by_cases h12 : e.kind = 12
  · simp [h12]
  by_cases h13 : e.kind = 13
  · simp [h13]
  by_cases h14 : e.kind = 14
  · simp [h14]
  by_cases h15 : e.kind = 15
  · simp [h15]
  by_cases h6 : e.kind = 6
  · simp [h6]
  by_cases h7 : e.kind = 7
  · simp [h7]
  by_cases h8 : e.kind = 8
  · simp [h8]
  by_cases h9 : e.kind = 9
  · simp [h9]
  simp [h1, h2, h3, h4, h5, h16, h11, h12, h13, h14, h15, h6, h7, h8, h9]
theorem may_wt (s : PSt) (e : Evt) : (mayS s e).wt = wtF s.wt e := by
  unfold mayS wtF
  simp only [apply_ite PSt.wt]
  by_cases h1 : e.kind = 1
  · simp [h1]
  by_cases h2 : e.kind = 2
  · simp [h2]
  by_cases h3 : e.kind = 3
  · simp [h3]
  by_cases h4 : e.kind = 4
  · simp [h4]
  by_cases h5 : e.kind = 5
  · simp [h5]
  by_cases h16 : e.kind = 16
  · simp [h16]
  by_cases h11 : e.kind = 11
  · simp [h11]
  by_cases h12 : e.kind = 12
  · simp [h12]
  by_cases h13 : e.kind = 13
  · simp [h13]
  by_cases h14 : e.kind = 14
  · simp [h14]
  by_cases h15 : e.kind = 15
  · simp [h15]
  by_cases h6 : e.kind = 6
  · simp [h6]
  by_cases h7 : e.kind = 7
  · simp [h7]
  by_cases h8 : e.kind = 8
  · simp [h8]
  by_cases h9 : e.kind = 9
  · simp [h9]
  simp [h1, h2, h3, h4, h5, h16, h11, h12, h13, h14, h15, h6, h7, h8, h9]
theorem may_fl (s : PSt) (e : Evt) : (mayS s e).fl = flF s.fl e := by
  unfold mayS flF
  simp only [apply_ite PSt.fl]
  by_cases h1 : e.kind = 1
  · simp [h1]
  by_cases h2 : e.kind = 2
  · simp [h2]
  by_cases h3 : e.kind = 3
  · simp [h3]
  by_cases h4 : e.kind = 4
  · simp [h4]
  by_cases h5 : e.kind = 5
  · simp [h5]
  by_cases h16 : e.kind = 16
  · simp [h16]
  by_cases h11 : e.kind = 11
  · simp [h11]
  by_cases h12 : e.kind = 12
  · simp [h12]
  by_cases h13 : e.kind = 13
  · simp [h13]
  by_cases h14 : e.kind = 14
  · simp [h14]
  by_cases h15 : e.kind = 15
  · simp [h15]
  by_cases h6 : e.kind = 6
  · simp [h6]
  by_cases h7 : e.kind = 7
  · simp [h7]
  by_cases h8 : e.kind = 8
  · simp [h8]
  by_cases h9 : e.kind = 9
  · simp [h9]
  simp [h1, h2, h3, h4, h5, h16, h11, h12, h13, h14, h15, h6, h7, h8, h9]
theorem may_fe (s : PSt) (e : Evt) : (mayS s e).fe = feF s.fe e := by
  unfold mayS feF
  simp only [apply_ite PSt.fe]
  by_cases h1 : e.kind = 1
  · simp [h1]
  by_cases h2 : e.kind = 2
  · simp [h2]
  by_cases h3 : e.kind = 3
  · simp [h3]
  by_cases h4 : e.kind = 4
  · simp [h4]
  by_cases h5 : e.kind = 5
  · simp [h5]
  by_cases h16 : e.kind = 16
  · simp [h16]
  by_cases h11 : e.kind = 11
  · simp [h11]
  by_cases h12 : e.kind = 12
  · simp [h12]
  by_cases h13 : e.kind = 13
  · simp [h13]
  by_cases h14 : e.kind = 14
  · simp [h14]
  by_cases h15 : e.kind = 15
  · simp [h15]
  by_cases h6 : e.kind = 6
  · simp [h6]
  by_cases h7 : e.kind = 7
  · simp [h7]
  by_cases h8 : e.kind = 8
  · simp [h8]
  by_cases h9 : e.kind = 9
  · simp [h9]
  simp [h1, h2, h3, h4, h5, h16, h11, h12, h13, h14, h15, h6, h7, h8, h9]
theorem Near.next {s u : PSt} (h : Near s u) {e : Evt} : Near (nextS s e) (nextS u e) := by
  refine ⟨rfl, fun o h1 => ?_, fun a b h1 => ?_, fun a b h1 => ?_, fun a h1 => ?_⟩
  · have h2 := h.obj o h1
    show (mayS s e).obj o = (mayS u e).obj o
    rw [may_obj, may_obj]
    unfold objF setO
    (repeat' split) <;> first | rfl | exact h2 | (dsimp only; split <;> first | rfl | exact h2)
  · have h2 := h.wt a b h1
    show (mayS s e).wt a b = (mayS u e).wt a b
    rw [may_wt, may_wt]
    unfold wtF setP dropP
    (repeat' split) <;> first | rfl | exact h2 | (dsimp only; split <;> first | rfl | exact h2)
  · have h2 := h.fl a b h1
    show (mayS s e).fl a b = (mayS u e).fl a b
    rw [may_fl, may_fl]
    unfold flF setP dropP
    (repeat' split) <;> first | rfl | exact h2 | (dsimp only; split <;> first | rfl | exact h2)
  · have h2 := h.fe a h1
    show (mayS s e).fe a = (mayS u e).fe a
    rw [may_fe, may_fe]
    unfold feF setN
    (repeat' split) <;> first | rfl | exact h2 | (dsimp only; split <;> first | rfl | exact h2)
theorem Near.right : ∀ (r : List Evt) {s u : PSt} (i : Nat), Near s u → (∀ e ∈ r, e.object ≠ noT ∧ e.node ≠ noN) → rightP u (i + 3) r = if rightP s i r = -1 then -1 else rightP s i r + 3
  | [], s, u, i, _, _ => by simp [rightP]
  | e :: r, s, u, i, h, ha => by
    obtain ⟨h1, h2⟩ := ha e (by simp)
    have hg := h.good h1 h2
    unfold rightP
    rw [← hg]
    cases goodB s e
    · simp
    · simp only [if_true]
      rw [show i + 3 + 1 = (i + 1) + 3 by omega]
      exact Near.right r (i + 1) h.next fun x hx => ha x (by simp [hx])
end Go.Proofs.YtiokbebodblhaaaGreatDoor.TraceP
