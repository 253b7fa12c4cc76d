/-
  Beginnings, in plain Lean: a beginning of what may have happened may have happened; events of nobody's change nothing.
-/
import Derived.Test.YtiokbebodblhaaaGreatDoorTPlain
namespace Go.Proofs.YtiokbebodblhaaaGreatDoor.TraceP
open Go

/-- The first event that can't have happened so; -1: none. -/
noncomputable def rightL (l : List Evt) : Int := rightP PSt.new 0 l
def runS (s : PSt) (l : List Evt) : PSt := l.foldl nextS s
noncomputable def allGood (s : PSt) : List Evt → Bool
  | [] => true
  | e :: r => goodB s e && allGood (nextS s e) r
theorem rightP_good : ∀ (l : List Evt) (s : PSt) (i : Nat), allGood s l = true ↔ rightP s i l = -1
  | [], s, i => by simp [allGood, rightP]
  | e :: r, s, i => by
    unfold allGood rightP
    cases hg : goodB s e
    · simp
    · simp only [Bool.true_and, if_true]
      exact rightP_good r _ _
theorem rightP_append : ∀ (a b : List Evt) (s : PSt) (i : Nat), allGood s a = true → rightP s i (a ++ b) = rightP (runS s a) (i + a.length) b
  | [], b, s, i, _ => rfl
  | e :: a, b, s, i, h => by
    unfold allGood at h
    simp only [Bool.and_eq_true] at h
    rw [List.cons_append, show rightP s i (e :: (a ++ b)) = if goodB s e then rightP (nextS s e) (i + 1) (a ++ b) else (i : Int) from rfl, h.1]
    simp only [if_true]
    rw [rightP_append a b (nextS s e) (i + 1) h.2, List.length_cons, show i + 1 + a.length = i + (a.length + 1) by omega]
    rfl
theorem rightP_bad : ∀ (l : List Evt) (s : PSt) (i : Nat), allGood s l = false → ∃ n : Nat, rightP s i l = ((i + n : Nat) : Int) ∧ n < l.length ∧ allGood s (l.take n) = true
  | [], s, i, h => by simp [allGood] at h
  | e :: r, s, i, h => by
    unfold allGood at h
    unfold rightP
    cases hg : goodB s e
    · exact ⟨0, by simp, by simp, rfl⟩
    · rw [hg] at h
      simp only [Bool.true_and] at h
      obtain ⟨n, h1, h2, h3⟩ := rightP_bad r (nextS s e) (i + 1) h
      refine ⟨n + 1, ?_, by simp only [List.length_cons]; omega, ?_⟩
      · simp only [if_true]
        rw [h1]
        congr 1
        omega
      · rw [List.take_succ_cons]
        unfold allGood
        rw [hg, h3]
        rfl
theorem allGood_take : ∀ (l : List Evt) (s : PSt) (k : Nat), allGood s l = true → allGood s (l.take k) = true
  | [], s, k, _ => by simp [allGood]
  | e :: r, s, 0, _ => rfl
  | e :: r, s, k + 1, h => by
    unfold allGood at h
    simp only [Bool.and_eq_true] at h
    rw [List.take_succ_cons]
    unfold allGood
    rw [h.1, allGood_take r _ k h.2]
    rfl
theorem run_tick : ∀ (l : List Evt) (s : PSt), (runS s l).tick = if l = [] then s.tick else tickOf l
  | [], s => rfl
  | e :: r, s => by
    show (runS (nextS s e) r).tick = _
    rw [run_tick r (nextS s e)]
    cases r with
    | nil => simp [tickOf, nextS]
    | cons a r => simp [tickOf, List.getLast?_cons_cons]
theorem good_ticks : ∀ (l : List Evt) (s : PSt), allGood s l = true → 0 ≤ s.tick ∧ s.tick ≤ 1099511627776 → 0 ≤ (runS s l).tick ∧ (runS s l).tick ≤ 1099511627776
  | [], s, _, h => h
  | e :: r, s, hg, h => by
    unfold allGood at hg
    simp only [Bool.and_eq_true] at hg
    have hr := hg.1
    unfold goodB at hr
    simp only [Bool.and_eq_true] at hr
    have hR := (rightB_iff e).1 hr.1.1
    exact good_ticks r (nextS s e) hg.2 hR.1.2.1
def noT : Txt := [47, 110, 111, 98, 111, 100, 121, 39, 115]
def noN : Int := 549755813888
def evPurge (t : Int) : Evt := { zEvt with kind := 5, tick := t, keys := [[120]] }
def evSet (t : Int) : Evt := { zEvt with kind := 1, tick := t, object := noT, met := { zMet with len := 1, have_ := 1 }, bytes := [120] }
def evCrash (t : Int) : Evt := { zEvt with kind := 16, tick := t, node := noN }
/-- Two states that part only in what is nobody's. -/
structure Near (s u : PSt) : Prop where
  tick : s.tick = u.tick
  obj : ∀ o, o ≠ noT → s.obj o = u.obj o
  wt : ∀ a b, a ≠ noN → s.wt a b = u.wt a b
  fl : ∀ a b, a ≠ noN → s.fl a b = u.fl a b
  fe : ∀ a, a ≠ noN → s.fe a = u.fe a
theorem Near.good {s u : PSt} (h : Near s u) {e : Evt} (ho : e.object ≠ noT) (hn : e.node ≠ noN) : goodB s e = goodB u e := by
  unfold goodB mayB
  rw [h.tick, h.obj _ ho, h.wt _ _ hn, h.fl _ _ hn, h.fe _ hn]
def objF (f : Txt → Nat) (e : Evt) : Txt → Nat := if e.kind = 1 then setO f e.object (if e.met.len = -1 then 2 else 1) else if e.kind = 3 then setO f e.object 1 else if e.kind = 4 then setO f e.object 0 else f
def wtF (f : Int → Int → Nat) (e : Evt) : Int → Int → Nat := if e.kind = 16 then dropP f e.node else if e.kind = 6 then setP f e.node e.who 1 else if e.kind = 8 then setP f e.node e.who 2 else if e.kind = 1 ∨ e.kind = 2 ∨ e.kind = 3 ∨ e.kind = 4 ∨ e.kind = 5 ∨ e.kind = 9 ∨ e.kind = 11 ∨ e.kind = 12 ∨ e.kind = 13 ∨ e.kind = 14 ∨ e.kind = 15 then f else setP f e.node e.who 0
def flF (f : Int → Int → Nat) (e : Evt) : Int → Int → Nat := if e.kind = 16 then dropP f e.node else if e.kind = 11 then setP f e.node e.who 1 else if e.kind = 12 then setP f e.node e.who (if e.rep.status ≠ 200 ∧ e.rep.status ≠ 206 then 0 else 2) else if e.kind = 14 ∨ e.kind = 15 then setP f e.node e.who 0 else f
def feF (f : Int → Int) (e : Evt) : Int → Int := if e.kind = 16 then setN f e.node 0 else if e.kind = 11 then setN f e.node e.who else f
theorem may_obj (s : PSt) (e : Evt) : (mayS s e).obj = objF s.obj e := by
  unfold mayS objF
  simp only [apply_ite PSt.obj]
  by_cases h1 : e.kind = 1
  · simp [h1]
  by_cases h2 : e.kind = 2
  · simp [h2]
  by_cases h3 : e.kind = 3
  · simp [h3]
  by_cases h4 : e.kind = 4
  · simp [h4]
  by_cases h5 : e.kind = 5
  · simp [h5]
  by_cases h16 : e.kind = 16
  · simp [h16]
  by_cases h11 : e.kind = 11
  · simp [h11]
  by_cases h12 : e.kind = 12
  · simp [h12]
  by_cases h13 : e.kind = 13
  · simp [h13]
  by_cases h14 : e.kind = 14
  · simp [h14]
  by_cases h15 : e.kind = 15
  · simp [h15]
  by_cases h6 : e.kind = 6
  · simp [h6]
  by_cases h7 : e.kind = 7
  · simp [h7]
  by_cases h8 : e.kind = 8
  · simp [h8]
  by_cases h9 : e.kind = 9
  · simp [h9]
  simp [h1, h2, h3, h4, h5, h16, h11, h12, h13, h14, h15, h6, h7, h8, h9]
theorem may_wt (s : PSt) (e : Evt) : (mayS s e).wt = wtF s.wt e := by
  unfold mayS wtF
  simp only [apply_ite PSt.wt]
  by_cases h1 : e.kind = 1
  · simp [h1]
  by_cases h2 : e.kind = 2
  · simp [h2]
  by_cases h3 : e.kind = 3
  · simp [h3]
  by_cases h4 : e.kind = 4
  · simp [h4]
  by_cases h5 : e.kind = 5
  · simp [h5]
  by_cases h16 : e.kind = 16
  · simp [h16]
  by_cases h11 : e.kind = 11
  · simp [h11]
  by_cases h12 : e.kind = 12
  · simp [h12]
  by_cases h13 : e.kind = 13
  · simp [h13]
  by_cases h14 : e.kind = 14
  · simp [h14]
  by_cases h15 : e.kind = 15
  · simp [h15]
  by_cases h6 : e.kind = 6
  · simp [h6]
  by_cases h7 : e.kind = 7
  · simp [h7]
  by_cases h8 : e.kind = 8
  · simp [h8]
  by_cases h9 : e.kind = 9
  · simp [h9]
  simp [h1, h2, h3, h4, h5, h16, h11, h12, h13, h14, h15, h6, h7, h8, h9]
theorem may_fl (s : PSt) (e : Evt) : (mayS s e).fl = flF s.fl e := by
  unfold mayS flF
  simp only [apply_ite PSt.fl]
  by_cases h1 : e.kind = 1
  · simp [h1]
  by_cases h2 : e.kind = 2
  · simp [h2]
  by_cases h3 : e.kind = 3
  · simp [h3]
  by_cases h4 : e.kind = 4
  · simp [h4]
  by_cases h5 : e.kind = 5
  · simp [h5]
  by_cases h16 : e.kind = 16
  · simp [h16]
  by_cases h11 : e.kind = 11
  · simp [h11]
  by_cases h12 : e.kind = 12
  · simp [h12]
  by_cases h13 : e.kind = 13
  · simp [h13]
  by_cases h14 : e.kind = 14
  · simp [h14]
  by_cases h15 : e.kind = 15
  · simp [h15]
  by_cases h6 : e.kind = 6
  · simp [h6]
  by_cases h7 : e.kind = 7
  · simp [h7]
  by_cases h8 : e.kind = 8
  · simp [h8]
  by_cases h9 : e.kind = 9
  · simp [h9]
  simp [h1, h2, h3, h4, h5, h16, h11, h12, h13, h14, h15, h6, h7, h8, h9]
theorem may_fe (s : PSt) (e : Evt) : (mayS s e).fe = feF s.fe e := by
  unfold mayS feF
  simp only [apply_ite PSt.fe]
  by_cases h1 : e.kind = 1
  · simp [h1]
  by_cases h2 : e.kind = 2
  · simp [h2]
  by_cases h3 : e.kind = 3
  · simp [h3]
  by_cases h4 : e.kind = 4
  · simp [h4]
  by_cases h5 : e.kind = 5
  · simp [h5]
  by_cases h16 : e.kind = 16
  · simp [h16]
  by_cases h11 : e.kind = 11
  · simp [h11]
  by_cases h12 : e.kind = 12
  · simp [h12]
  by_cases h13 : e.kind = 13
  · simp [h13]
  by_cases h14 : e.kind = 14
  · simp [h14]
  by_cases h15 : e.kind = 15
  · simp [h15]
  by_cases h6 : e.kind = 6
  · simp [h6]
  by_cases h7 : e.kind = 7
  · simp [h7]
  by_cases h8 : e.kind = 8
  · simp [h8]
  by_cases h9 : e.kind = 9
  · simp [h9]
  simp [h1, h2, h3, h4, h5, h16, h11, h12, h13, h14, h15, h6, h7, h8, h9]
theorem Near.next {s u : PSt} (h : Near s u) {e : Evt} : Near (nextS s e) (nextS u e) := by
  refine ⟨rfl, fun o h1 => ?_, fun a b h1 => ?_, fun a b h1 => ?_, fun a h1 => ?_⟩
  · have h2 := h.obj o h1
    show (mayS s e).obj o = (mayS u e).obj o
    rw [may_obj, may_obj]
    unfold objF setO
    (repeat' split) <;> first | rfl | exact h2 | (dsimp only; split <;> first | rfl | exact h2)
  · have h2 := h.wt a b h1
    show (mayS s e).wt a b = (mayS u e).wt a b
    rw [may_wt, may_wt]
    unfold wtF setP dropP
    (repeat' split) <;> first | rfl | exact h2 | (dsimp only; split <;> first | rfl | exact h2)
  · have h2 := h.fl a b h1
    show (mayS s e).fl a b = (mayS u e).fl a b
    rw [may_fl, may_fl]
    unfold flF setP dropP
    (repeat' split) <;> first | rfl | exact h2 | (dsimp only; split <;> first | rfl | exact h2)
  · have h2 := h.fe a h1
    show (mayS s e).fe a = (mayS u e).fe a
    rw [may_fe, may_fe]
    unfold feF setN
    (repeat' split) <;> first | rfl | exact h2 | (dsimp only; split <;> first | rfl | exact h2)
theorem Near.right : ∀ (r : List Evt) {s u : PSt} (i : Nat), Near s u → (∀ e ∈ r, e.object ≠ noT ∧ e.node ≠ noN) → rightP u (i + 3) r = if rightP s i r = -1 then -1 else rightP s i r + 3
  | [], s, u, i, _, _ => by simp [rightP]
  | e :: r, s, u, i, h, ha => by
    obtain ⟨h1, h2⟩ := ha e (by simp)
    have hg := h.good h1 h2
    unfold rightP
    rw [← hg]
    cases goodB s e
    · simp
    · simp only [if_true]
      rw [show i + 3 + 1 = (i + 1) + 3 by omega]
      exact Near.right r (i + 1) h.next fun x hx => ha x (by simp [hx])
theorem none_right (t : Int) (h : 0 ≤ t ∧ t ≤ 1099511627776) : RightE (evPurge t) ∧ RightE (evSet t) ∧ RightE (evCrash t) := by
  have z : (0 : Int) ≤ 0 ∧ (0 : Int) ≤ 1099511627776 := by decide
  have z5 : (1 : Int) ≤ 5 ∧ (5 : Int) ≤ 16 := by decide
  have z1 : (1 : Int) ≤ 1 ∧ (1 : Int) ≤ 16 := by decide
  have z16 : (1 : Int) ≤ 16 ∧ (16 : Int) ≤ 16 := by decide
  have zn : (0 : Int) ≤ noN ∧ noN ≤ 1099511627776 := by decide
  refine ⟨⟨⟨z5, h, z, z⟩, ?_⟩, ⟨⟨z1, h, z, z⟩, ?_⟩, ⟨⟨z16, h, zn, z⟩, ?_⟩⟩
  · simp [onlyE, evPurge, zEvt]
  · simp [onlyE, evSet, zEvt]
  · simp [onlyE, evCrash, zEvt]
theorem near_none (s : PSt) (h0 : 0 ≤ s.tick ∧ s.tick ≤ 1099511627776) : allGood s [evPurge s.tick, evSet s.tick, evCrash s.tick] = true ∧ Near s (runS s [evPurge s.tick, evSet s.tick, evCrash s.tick]) := by
  obtain ⟨r1, r2, r3⟩ := none_right s.tick h0
  have b1 := (rightB_iff _).2 r1
  have b2 := (rightB_iff _).2 r2
  have b3 := (rightB_iff _).2 r3
  constructor
  · unfold allGood allGood allGood allGood goodB
    rw [b1, b2, b3]
    simp [nextS, mayS, mayB, evPurge, evSet, evCrash, zEvt]
  · refine ⟨rfl, fun o h1 => ?_, fun a b h1 => ?_, fun a b h1 => ?_, fun a h1 => ?_⟩
    · simp [runS, nextS, mayS, evPurge, evSet, evCrash, zEvt, setO, h1]
    · simp [runS, nextS, mayS, evPurge, evSet, evCrash, zEvt, dropP, h1]
    · simp [runS, nextS, mayS, evPurge, evSet, evCrash, zEvt, dropP, h1]
    · simp [runS, nextS, mayS, evPurge, evSet, evCrash, zEvt, setN, h1]
/-- What a beginning tells: with n where it goes wrong, or the length. -/
theorem begins_ok (l : List Evt) : ∃ n : Nat, n ≤ l.length ∧ ((rightL l = -1 ∧ n = l.length) ∨ rightL l = (n : Int)) ∧ ∀ k, k ≤ n → rightL (l.take k) = -1 := by
  unfold rightL
  cases hg : allGood PSt.new l
  · obtain ⟨n, h1, h2, h3⟩ := rightP_bad l PSt.new 0 hg
    rw [Nat.zero_add] at h1
    refine ⟨n, by omega, .inr h1, fun k hk => ?_⟩
    have := allGood_take (l.take n) PSt.new k h3
    rw [List.take_take, Nat.min_eq_left hk] at this
    exact (rightP_good _ _ _).1 this
  · exact ⟨l.length, Nat.le_refl _, .inl ⟨(rightP_good _ _ _).1 hg, rfl⟩, fun k _ => (rightP_good _ _ _).1 (allGood_take l _ k hg)⟩
/-- With nobody's events between. -/
theorem begins_more (l : List Evt) (k : Nat) (_hk : k ≤ l.length) (hg : rightL (l.take k) = -1) (ha : ∀ e ∈ l, e.object ≠ noT ∧ e.node ≠ noN) :
    rightL (l.take k ++ [evPurge (tickOf (l.take k)), evSet (tickOf (l.take k)), evCrash (tickOf (l.take k))] ++ l.drop k) = if rightL l = -1 then -1 else rightL l + 3 := by
  have hG : allGood PSt.new (l.take k) = true := (rightP_good _ _ 0).2 hg
  have ht := good_ticks _ _ hG ⟨Int.le_refl _, by decide⟩
  have hs : (runS PSt.new (l.take k)).tick = tickOf (l.take k) := by
    rw [run_tick]
    split
    · rename_i h; rw [h]; rfl
    · rfl
  obtain ⟨n1, n2⟩ := near_none (runS PSt.new (l.take k)) ht
  rw [hs] at n1 n2
  have hl : l = l.take k ++ l.drop k := (List.take_append_drop k l).symm
  unfold rightL
  rw [List.append_assoc, rightP_append _ _ _ _ hG, rightP_append _ _ _ _ n1]
  conv => rhs; rw [hl, rightP_append _ _ _ _ hG]
  have := Near.right (l.drop k) (0 + (l.take k).length) n2 fun e he => ha e (List.mem_of_mem_drop he)
  exact this
end Go.Proofs.YtiokbebodblhaaaGreatDoor.TraceP
