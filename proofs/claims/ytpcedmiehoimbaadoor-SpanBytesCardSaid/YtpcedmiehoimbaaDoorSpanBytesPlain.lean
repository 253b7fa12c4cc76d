/-
  What SpanBytes asks, in plain Lean.
-/
import Derived.Test.YtpcedmiehoimbaaDoorSpanPlain
namespace Go.Proofs.YtpcedmiehoimbaaDoor
open SpanP
theorem has_meet (a b c d p : Int) : (meetB a b c d && hasB (meetF a b c d) (meetT a b c d) p) = (hasB a b p && hasB c d p) := by
  unfold meetB hasB meetF meetT
  rw [Bool.eq_iff_iff]
  simp only [Bool.and_eq_true, decide_eq_true_eq]
  constructor
  · rintro ⟨h, h2⟩
    rw [if_pos h, if_pos h] at h2
    omega
  · rintro ⟨h1, h2⟩
    have h : 0 ≤ a ∧ a ≤ b ∧ b ≤ 4611686018427387904 ∧ 0 ≤ c ∧ c ≤ d ∧ d ≤ 4611686018427387904 ∧ max a c < min b d := by omega
    refine ⟨h, ?_⟩
    rw [if_pos h, if_pos h]
    omega
theorem has_join (a b c d p : Int) (h : touchB a b c d = true) : hasB (joinF a b c d) (joinT a b c d) p = (hasB a b p || hasB c d p) := by
  have h' : 0 ≤ a ∧ a ≤ b ∧ b ≤ 4611686018427387904 ∧ 0 ≤ c ∧ c ≤ d ∧ d ≤ 4611686018427387904 ∧ max a c ≤ min b d := of_decide_eq_true h
  unfold hasB joinF joinT
  rw [if_pos h', if_pos h', Bool.eq_iff_iff]
  simp only [Bool.or_eq_true, decide_eq_true_eq]
  omega
theorem has_cutA (a b x p : Int) : hasB (cutA a b x) (cutM a b x) p = (hasB a b p && decide (p < x)) := by
  unfold hasB cutA cutM
  rw [Bool.eq_iff_iff]
  simp only [Bool.and_eq_true, decide_eq_true_eq]
  split
  · omega
  · omega
theorem has_cutB (a b x p : Int) : hasB (cutM a b x) (cutB a b x) p = (hasB a b p && decide (x ≤ p)) := by
  unfold hasB cutB cutM
  rw [Bool.eq_iff_iff]
  simp only [Bool.and_eq_true, decide_eq_true_eq]
  split
  · omega
  · omega
end Go.Proofs.YtpcedmiehoimbaaDoor
