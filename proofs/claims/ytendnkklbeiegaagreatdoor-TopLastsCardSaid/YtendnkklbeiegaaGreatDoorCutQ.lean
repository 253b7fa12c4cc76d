/-
  A chain of '&&' behind the first false is passed over at once; a long region is walked in parts: the list of its operations is cut.
-/
import Derived.Test.YtendnkklbeiegaaGreatDoorProg
import Derived.Test.YtendnkklbeiegaaGreatDoorMAI
import Derived.Lib.Hide
import Derived.Deep.Cut
namespace Go.Proofs.YtendnkklbeiegaaGreatDoor
open Go.RowKit

/-- The slots F hold false. -/
def FalseAt (a : Act) (n : Nat) (F : List Nat) : Prop := a.tmps.size = n ∧ ∀ s ∈ F, a.tmps[s]? = some (.bool false)
def dropS (d : Option Nat) (F : List Nat) : List Nat := match d with
  | some d => F.filter fun s => decide (s ≠ d)
  | none => F
theorem FalseAt.passed {a : Act} {n : Nat} {F : List Nat} (h : FalseAt a n F) (d : Option Nat) : FalseAt (a.put d undef) n (dropS d F) := by
  cases d with
  | none => exact h
  | some d =>
    refine ⟨by simpa [Act.put] using h.1, fun s hs => ?_⟩
    unfold dropS at hs
    rw [List.mem_filter] at hs
    have hne : d ≠ s := fun e => by simp [e] at hs
    show (a.tmps.setIfInBounds d undef)[s]? = _
    rw [Array.getElem?_setIfInBounds_ne hne]
    exact h.2 s hs.1
theorem FalseAt.eval {a : Act} {n : Nat} {F : List Nat} (h : FalseAt a n F) {s : Nat} (hs : s ∈ F) : a.eval (.tmp s) = .bool false := by
  show a.tmps.getD s undef = _
  rw [Array.getD_eq_getD_getElem?, h.2 s hs]
  rfl
/-- What is asked behind the first part: the second one is walked. -/
def CutQ (P : Program) (ops : Array Oper) (Q : Exit → Act → World → Prop) (l : List Oper) (e : Exit) (a : Act) (w : World) : Prop :=
  match e with
  | .normal => wpList P ops Q l a w
  | e => Q e a w
theorem CutQ.go_ {P : Program} {ops : Array Oper} {Q : Exit → Act → World → Prop} {l : List Oper} {a : Act} {w : World} (h : wpList P ops Q l a w) : CutQ P ops Q l .normal a w := h
theorem oper_wp_monoQ {P : Program} {o : Oper} {a : Act} {w : World} {K K' : Act → World → Prop} {Q Q' : Exit → Act → World → Prop} (h : ∀ a w, K a w → K' a w)
    (hQ : ∀ c a w, Q (.panic c) a w → Q' (.panic c) a w) (hL : LetsOut Q → LetsOut Q') (hh : o.wp P a w K Q) : o.wp P a w K' Q' := by
  unfold Oper.wp at *
  generalize (execOp a.eval o).run P w = r at *
  cases r with
  | ok n w' =>
    cases n <;> simp only [Oper.upon] at hh ⊢ <;>
      first
        | exact h _ _ hh
        | exact Calls.mono hh (fun e w'' he => by cases e <;> first | exact h _ _ he | exact hQ _ _ _ he | exact hL he)
        | exact Rows.mono hh (fun _ _ he => h _ _ he)
  | halt x w' => cases x <;> simp only [Oper.upon] at hh ⊢ <;> first | exact hQ _ _ _ hh | exact hh
theorem wpList_cut {P : Program} {ops : Array Oper} {Q : Exit → Act → World → Prop} {l2 : List Oper} : ∀ (l1 : List Oper) (a : Act) (w : World), wpList P ops (CutQ P ops Q l2) l1 a w → wpList P ops Q (l1 ++ l2) a w
  | [], _, _, h => h
  | o :: r, a, w, h => by
    have hL : LetsOut (CutQ P ops Q l2) → LetsOut Q := fun ⟨a, w, h⟩ => ⟨a, w, h⟩
    simp only [wpList, List.cons_append] at h ⊢
    split
    · rename_i hw
      simp only [hw, if_true] at h
      rcases h with h | ⟨h1, h2⟩
      · exact .inl (oper_wp_monoQ (fun a w k => wpList_cut r a w k) (fun _ _ _ k => k) hL h)
      · exact .inr ⟨h1, hL h2⟩
    · rename_i hw
      simp only [hw, Bool.false_eq_true, if_false] at h
      exact wpList_cut r _ _ h
/-- Cut behind the first n operations. -/
theorem wpList_cutAt {P : Program} {ops : Array Oper} {Q : Exit → Act → World → Prop} {l : List Oper} {a : Act} {w : World} (n : Nat) (h : wpList P ops (CutQ P ops Q (l.drop n)) (l.take n) a w) : wpList P ops Q l a w := by
  have := wpList_cut (l.take n) a w h
  rwa [List.take_append_drop] at this
/- ### The edges of an order play no part where the order is given: they are laid aside -/
end Go.Proofs.YtendnkklbeiegaaGreatDoor
