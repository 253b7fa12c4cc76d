/-
  A chain of '&&' behind the first false is passed over at once; a long region is walked in parts: the list of its operations is cut.
-/
import Derived.Test.YtnjcaepbelgpfaaGreatDoorProg
import Derived.Test.YtnjcaepbelgpfaaGreatDoorMem2
import Derived.Lib.Hide
import Derived.Deep.Cut
namespace Go.Proofs.YtnjcaepbelgpfaaGreatDoor
open Go.RowKit

/-- The slots F hold false. -/
def FalseAt (a : Act) (n : Nat) (F : List Nat) : Prop := a.tmps.size = n ∧ ∀ s ∈ F, a.tmps[s]? = some (.bool false)
def dropS (d : Option Nat) (F : List Nat) : List Nat := match d with
  | some d => F.filter fun s => decide (s ≠ d)
  | none => F
def deadOp (ops : Array Oper) (n : Nat) (o : Oper) (F : List Nat) : Option (List Nat) :=
  match o.guard with
  | some (j, true) => match (ops[j]?).bind (·.dst) with
    | some s => if F.contains s then some (dropS o.dst F) else none
    | none => none
  | some (_, false) => none
  | none => match o.op, o.dst with
    | .move (.tmp s), some d => if F.contains s && decide (d < n) then some (d :: F) else none
    | .assign (.tmp s), some d => if F.contains s && decide (d < n) then some (d :: F) else none
    | .pick (.tmp s) _ (.const (.bool false)), some d => if F.contains s && decide (d < n) then some (d :: F) else none
    | _, _ => none
def deadOps (ops : Array Oper) (n : Nat) : List Oper → List Nat → Option (List Nat)
  | [], F => some F
  | o :: r, F => (deadOp ops n o F).bind (deadOps ops n r)
theorem FalseAt.passed {a : Act} {n : Nat} {F : List Nat} (h : FalseAt a n F) (d : Option Nat) : FalseAt (a.put d undef) n (dropS d F) := by
  cases d with
  | none => exact h
  | some d =>
    refine ⟨by simpa [Act.put] using h.1, fun s hs => ?_⟩
    unfold dropS at hs
    rw [List.mem_filter] at hs
    have hne : d ≠ s := fun e => by simp [e] at hs
    show (a.tmps.setIfInBounds d undef)[s]? = _
    rw [Array.getElem?_setIfInBounds_ne hne]
    exact h.2 s hs.1
theorem FalseAt.put_ {a : Act} {n : Nat} {F : List Nat} (h : FalseAt a n F) (d : Nat) (hd : d < n) : FalseAt (a.put (some d) (.bool false)) n (d :: F) := by
  refine ⟨by simpa [Act.put] using h.1, fun s hs => ?_⟩
  show (a.tmps.setIfInBounds d (.bool false))[s]? = _
  by_cases e : d = s
  · subst e
    rw [Array.getElem?_setIfInBounds_self_of_lt (by rw [h.1]; exact hd)]
  · rw [Array.getElem?_setIfInBounds_ne e]
    rcases List.mem_cons.1 hs with rfl | hs
    · exact absurd rfl e
    · exact h.2 s hs
theorem FalseAt.eval {a : Act} {n : Nat} {F : List Nat} (h : FalseAt a n F) {s : Nat} (hs : s ∈ F) : a.eval (.tmp s) = .bool false := by
  show a.tmps.getD s undef = _
  rw [Array.getD_eq_getD_getElem?, h.2 s hs]
  rfl
theorem dead_op {P : Program} {ops : Array Oper} {n : Nat} {Q : Exit → Act → World → Prop} {o : Oper} {r : List Oper} {F F' : List Nat} {a : Act} {w : World} (hd : deadOp ops n o F = some F') (h : FalseAt a n F)
    (k : ∀ a', FalseAt a' n F' → a'.defers = a.defers → wpList P ops Q r a' w) : wpList P ops Q (o :: r) a w := by
  unfold deadOp at hd
  split at hd
  · rename_i j hg
    split at hd
    · rename_i s hs
      split at hd
      · rename_i hc
        injection hd with hd
        have hm : s ∈ F := by simpa using hc
        have hw : Region.wanted o (yielded ops a.tmps) = false := by
          unfold Region.wanted
          rw [hg]
          unfold yielded
          simp only [hs, Option.bind_some, h.2 s hm]
          rfl
        refine wpList_skip hw (k _ ?_ ?_)
        · rw [← hd]; exact h.passed o.dst
        · cases o.dst <;> rfl
      · cases hd
    · cases hd
  · cases hd
  · rename_i hg
    have hw : Region.wanted o (yielded ops a.tmps) = true := by unfold Region.wanted; rw [hg]
    have go : ∀ (s d : Nat), o.dst = some d → (F.contains s && decide (d < n)) = true → some (d :: F) = some F' → (a.eval (.tmp s) = .bool false → o.wp P a w (wpList P ops Q r) Q) → wpList P ops Q (o :: r) a w := by
      intro s d _ hc hF hq
      simp only [Bool.and_eq_true, decide_eq_true_eq] at hc
      simp only [wpList, hw, if_true]
      exact .inl (hq (h.eval (by simpa using hc.1)))
    have done : ∀ (s d : Nat), o.dst = some d → (F.contains s && decide (d < n)) = true → some (d :: F) = some F' → wpList P ops Q r (a.put o.dst (.bool false)) w := by
      intro s d hd' hc hF
      simp only [Bool.and_eq_true, decide_eq_true_eq] at hc
      injection hF with hF
      refine k _ ?_ ?_
      · rw [hd', ← hF]; exact h.put_ d hc.2
      · rw [hd']; rfl
    split at hd
    · rename_i s d ho hd'
      split at hd
      · rename_i hc
        refine go s d hd' hc hd fun he => BigFrame.wp_move _ ho ?_
        rw [he]
        exact done s d hd' hc hd
      · cases hd
    · rename_i s d ho hd'
      split at hd
      · rename_i hc
        refine go s d hd' hc hd fun he => BigFrame.wp_assign _ ho ?_
        rw [he]
        exact done s d hd' hc hd
      · cases hd
    · rename_i s x d ho hd'
      split at hd
      · rename_i hc
        refine go s d hd' hc hd fun he => ?_
        unfold Oper.wp execOp
        simp only [ho, he]
        exact done s d hd' hc hd
      · cases hd
    · cases hd
theorem dead_tail {P : Program} {ops : Array Oper} {n : Nat} {Q : Exit → Act → World → Prop} {w : World} : ∀ (l : List Oper) (F F' : List Nat) (a : Act), deadOps ops n l F = some F' → FalseAt a n F → (∀ a', FalseAt a' n F' → a'.defers = a.defers → Q .normal a' w) → wpList P ops Q l a w
  | [], F, F', a, hd, h, k => by
    injection hd with hd
    subst hd
    exact k a h rfl
  | o :: r, F, F', a, hd, h, k => by
    obtain ⟨F1, h1, h2⟩ := Option.bind_eq_some_iff.1 hd
    exact dead_op h1 h fun a1 f1 e1 => dead_tail r F1 F' a1 h2 f1 fun a2 f2 e2 => k a2 f2 (e2.trans e1)
/-- What is asked behind the first part: the second one is walked. -/
def CutQ (P : Program) (ops : Array Oper) (Q : Exit → Act → World → Prop) (l : List Oper) (e : Exit) (a : Act) (w : World) : Prop :=
  match e with
  | .normal => wpList P ops Q l a w
  | e => Q e a w
theorem CutQ.go_ {P : Program} {ops : Array Oper} {Q : Exit → Act → World → Prop} {l : List Oper} {a : Act} {w : World} (h : wpList P ops Q l a w) : CutQ P ops Q l .normal a w := h
theorem oper_wp_monoQ {P : Program} {o : Oper} {a : Act} {w : World} {K K' : Act → World → Prop} {Q Q' : Exit → Act → World → Prop} (h : ∀ a w, K a w → K' a w)
    (hQ : ∀ c a w, Q (.panic c) a w → Q' (.panic c) a w) (hL : LetsOut Q → LetsOut Q') (hh : o.wp P a w K Q) : o.wp P a w K' Q' := by
  unfold Oper.wp at *
  generalize (execOp a.eval o).run P w = r at *
  cases r with
  | ok n w' =>
    cases n <;> simp only [Oper.upon] at hh ⊢ <;>
      first
        | exact h _ _ hh
        | exact Calls.mono hh (fun e w'' he => by cases e <;> first | exact h _ _ he | exact hQ _ _ _ he | exact hL he)
        | exact Rows.mono hh (fun _ _ he => h _ _ he)
  | halt x w' => cases x <;> simp only [Oper.upon] at hh ⊢ <;> first | exact hQ _ _ _ hh | exact hh
theorem wpList_cut {P : Program} {ops : Array Oper} {Q : Exit → Act → World → Prop} {l2 : List Oper} : ∀ (l1 : List Oper) (a : Act) (w : World), wpList P ops (CutQ P ops Q l2) l1 a w → wpList P ops Q (l1 ++ l2) a w
  | [], _, _, h => h
  | o :: r, a, w, h => by
    have hL : LetsOut (CutQ P ops Q l2) → LetsOut Q := fun ⟨a, w, h⟩ => ⟨a, w, h⟩
    simp only [wpList, List.cons_append] at h ⊢
    split
    · rename_i hw
      simp only [hw, if_true] at h
      rcases h with h | ⟨h1, h2⟩
      · exact .inl (oper_wp_monoQ (fun a w k => wpList_cut r a w k) (fun _ _ _ k => k) hL h)
      · exact .inr ⟨h1, hL h2⟩
    · rename_i hw
      simp only [hw, Bool.false_eq_true, if_false] at h
      exact wpList_cut r _ _ h
/-- Cut behind the first n operations. -/
theorem wpList_cutAt {P : Program} {ops : Array Oper} {Q : Exit → Act → World → Prop} {l : List Oper} {a : Act} {w : World} (n : Nat) (h : wpList P ops (CutQ P ops Q (l.drop n)) (l.take n) a w) : wpList P ops Q l a w := by
  have := wpList_cut (l.take n) a w h
  rwa [List.take_append_drop] at this
/- ### The edges of an order play no part where the order is given: they are laid aside -/
def bareOp (o : Oper) : Oper := ⟨o.dst, o.op, o.type, "", #[], o.guard⟩
def nubOp (o : Oper) : Oper := ⟨o.dst, .move (.tmp 0), 0, "", #[], none⟩
theorem bare_wp {P : Program} {o : Oper} {a : Act} {w : World} {K : Act → World → Prop} {Q : Exit → Act → World → Prop} (h : (bareOp o).wp P a w K Q) : o.wp P a w K Q := h
theorem bare_asks {P : Program} {o : Oper} {a : Act} {w : World} (h : (bareOp o).asks P a w) : o.asks P a w := h
theorem nub_yielded (ops : List Oper) (t : Array Value) : yielded (ops.map nubOp).toArray t = yielded ops.toArray t := by
  funext j
  unfold yielded
  simp only [List.getElem?_toArray, List.getElem?_map]
  cases ops[j]? <;> rfl
theorem wpList_bare {P : Program} {ops : List Oper} {Q : Exit → Act → World → Prop} : ∀ (l : List Oper) (a : Act) (w : World), wpList P (ops.map nubOp).toArray Q (l.map bareOp) a w → wpList P ops.toArray Q l a w
  | [], _, _, h => h
  | o :: r, a, w, h => by
    simp only [wpList, List.map_cons, nub_yielded] at h ⊢
    have hw : Region.wanted (bareOp o) (yielded ops.toArray a.tmps) = Region.wanted o (yielded ops.toArray a.tmps) := rfl
    rw [hw] at h
    split
    · rename_i hw
      simp only [hw, if_true] at h
      rcases h with h | ⟨h1, h2⟩
      · exact .inl (Oper.wp_mono (fun a w k => wpList_bare r a w k) (bare_wp h))
      · exact .inr ⟨bare_asks h1, h2⟩
    · rename_i hw
      simp only [hw, Bool.false_eq_true, if_false] at h
      exact wpList_bare r _ _ h
theorem wp_region_bare {P : Program} {Q : Exit → Act → World → Prop} {id : Nat} {l : List Oper} {a : Act} {w : World} (h : wpList P (l.map nubOp).toArray Q (l.map bareOp) a w) : (Code.region id l.toArray false).wp P Q a w :=
  wp_region_lit (wpList_bare l a w h)
def deadEnd (ops : Array Oper) (n : Nat) (l : List Oper) (F : List Nat) (t : Nat) : Bool := match deadOps ops n l F with
  | some F' => F'.contains t
  | none => false
theorem dead_end {P : Program} {ops : Array Oper} {n : Nat} {Q : Exit → Act → World → Prop} {w : World} {l : List Oper} {a : Act} (F : List Nat) (t : Nat) (hd : deadEnd ops n l F t = true) (h : FalseAt a n F)
    (k : ∀ a', a'.tmps.getD t undef = .bool false → a'.defers = a.defers → Q .normal a' w) : wpList P ops Q l a w := by
  unfold deadEnd at hd
  split at hd
  · rename_i F' hF
    exact dead_tail l F F' a hF h fun a' fa da => k a' (fa.eval (by simpa using hd)) da
  · cases hd
theorem dead_end1 {P : Program} {ops : Array Oper} {n : Nat} {Q : Exit → Act → World → Prop} {w : World} {l : List Oper} {a : Act} (s t : Nat) (hd : deadEnd ops n l [s] t = true) (h1 : a.tmps.size = n) (h2 : a.tmps[s]? = some (.bool false))
    (k : ∀ a', a'.tmps.getD t undef = .bool false → a'.defers = a.defers → Q .normal a' w) : wpList P ops Q l a w :=
  dead_end [s] t hd ⟨h1, fun s' hs => by rw [List.mem_singleton] at hs; subst hs; exact h2⟩ k
/-- One operation alone. -/
theorem wpList_one {P : Program} {ops : Array Oper} {Q : Exit → Act → World → Prop} {o : Oper} {rest : List Oper} {a : Act} {w : World} (hw : Region.wanted o (yielded ops a.tmps) = true)
    (h : ∀ K : Act → World → Prop, (∀ a w, wpList P ops Q rest a w → K a w) → o.wp P a w K Q) : wpList P ops Q (o :: rest) a w :=
  wpList_step fun K hK => by rw [if_pos hw]; exact h K hK
end Go.Proofs.YtnjcaepbelgpfaaGreatDoor
