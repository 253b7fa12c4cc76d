/-
  The walks of the program's functions on spans that make no text, second half.
-/
import Derived.Test.YtpcedmiehoimbaaDoorSpanWalkA1
namespace Go.Proofs.YtpcedmiehoimbaaDoor
open Go.RowKit SpanP
set_option maxRecDepth 100000 in
theorem stouch_calls (a b c d : Int) (w : World) : Calls Tryd.prog 25 #[.agg #[.int .i64 a, .int .i64 b], .agg #[.int .i64 c, .int .i64 d]] w fun e w' => e = .returned (.bool (touchB a b c d)) ∧ Gr w w' := by
  go_enter Tryd.func25, Tryd.ntmps25
  go_wp2
  all_goals try (go_region; go_wp2)
  all_goals refine bodyPost_ret (v := _) (by simp [results, Tryd.results25, go_sem]; rfl) rfl ⟨?_, by repeat (first | exact Gr.refl _ | refine Gr.drew ?_ | refine Gr.alloc ?_ _ | refine Gr.set_ ?_ (by simp <;> omega) _)⟩
  all_goals try simp only [Bool.not_eq_true', Bool.not_eq_false', decide_eq_true_eq, decide_eq_false_iff_not, bne_iff_ne, beq_iff_eq, bne_eq_false_iff_eq, beq_eq_false_iff_ne, Bool.not_eq_eq_eq_not, Bool.not_true, Bool.not_false, ne_eq, Int.not_lt, Int.not_le] at *
  all_goals try simp only [Ending.returned.injEq, Value.tuple.injEq, Value.agg.injEq, Value.bool.injEq, Value.int.injEq, Array.mk.injEq, List.cons.injEq, and_true, true_and, touchB]
  all_goals (first | rfl | omega | (rw [Bool.eq_iff_iff]; simp only [decide_eq_true_eq, Bool.or_eq_true, Bool.and_eq_true, beq_iff_eq, Bool.false_eq_true, iff_false, false_iff, true_iff, iff_true]; omega) | (unfold wrap64; rw [if_pos (by omega), if_neg (by omega)]; omega) | (simp; omega) | skip)
set_option maxRecDepth 100000 in
theorem sjoin_calls (a b c d : Int) (w : World) : Calls Tryd.prog 23 #[.agg #[.int .i64 a, .int .i64 b], .agg #[.int .i64 c, .int .i64 d]] w fun e w' => e = .returned (.tuple #[.agg #[.int .i64 (joinF a b c d), .int .i64 (joinT a b c d)], .bool (touchB a b c d)]) ∧ Gr w w' := by
  go_enter Tryd.func23, Tryd.ntmps23
  go_wp2
  all_goals try (go_region; go_wp2)
  all_goals refine bodyPost_ret (v := _) (by simp [results, Tryd.results23, go_sem]; rfl) rfl ⟨?_, by repeat (first | exact Gr.refl _ | refine Gr.drew ?_ | refine Gr.alloc ?_ _ | refine Gr.set_ ?_ (by simp <;> omega) _)⟩
  all_goals try simp only [Bool.not_eq_true', Bool.not_eq_false', decide_eq_true_eq, decide_eq_false_iff_not, bne_iff_ne, beq_iff_eq, bne_eq_false_iff_eq, beq_eq_false_iff_ne, Bool.not_eq_eq_eq_not, Bool.not_true, Bool.not_false, ne_eq, Int.not_lt, Int.not_le] at *
  all_goals try simp only [Ending.returned.injEq, Value.tuple.injEq, Value.agg.injEq, Value.bool.injEq, Value.int.injEq, Array.mk.injEq, List.cons.injEq, and_true, true_and, joinF, joinT, touchB]
  all_goals (first | rfl | omega | (rw [Bool.eq_iff_iff]; simp only [decide_eq_true_eq, Bool.or_eq_true, Bool.and_eq_true, beq_iff_eq, Bool.false_eq_true, iff_false, false_iff, true_iff, iff_true]; omega) | (unfold wrap64; rw [if_pos (by omega), if_neg (by omega)]; omega) | (simp; omega) | skip)
set_option maxRecDepth 100000 in
theorem swithin_calls (a b c d : Int) (w : World) : Calls Tryd.prog 21 #[.agg #[.int .i64 a, .int .i64 b], .agg #[.int .i64 c, .int .i64 d]] w fun e w' => e = .returned (.bool (withinB a b c d)) ∧ Gr w w' := by
  go_enter Tryd.func21, Tryd.ntmps21
  go_wp2
  all_goals try (go_region; go_wp2)
  all_goals refine bodyPost_ret (v := _) (by simp [results, Tryd.results21, go_sem]; rfl) rfl ⟨?_, by repeat (first | exact Gr.refl _ | refine Gr.drew ?_ | refine Gr.alloc ?_ _ | refine Gr.set_ ?_ (by simp <;> omega) _)⟩
  all_goals try simp only [Bool.not_eq_true', Bool.not_eq_false', decide_eq_true_eq, decide_eq_false_iff_not, bne_iff_ne, beq_iff_eq, bne_eq_false_iff_eq, beq_eq_false_iff_ne, Bool.not_eq_eq_eq_not, Bool.not_true, Bool.not_false, ne_eq, Int.not_lt, Int.not_le] at *
  all_goals try simp only [Ending.returned.injEq, Value.tuple.injEq, Value.agg.injEq, Value.bool.injEq, Value.int.injEq, Array.mk.injEq, List.cons.injEq, and_true, true_and, withinB]
  all_goals (first | rfl | omega | (rw [Bool.eq_iff_iff]; simp only [decide_eq_true_eq, Bool.or_eq_true, Bool.and_eq_true, beq_iff_eq, Bool.false_eq_true, iff_false, false_iff, true_iff, iff_true]; omega) | (unfold wrap64; rw [if_pos (by omega), if_neg (by omega)]; omega) | (simp; omega) | skip)
set_option maxRecDepth 100000 in
theorem scut_calls (a b x : Int) (w : World) : Calls Tryd.prog 26 #[.agg #[.int .i64 a, .int .i64 b], .int .i64 x] w fun e w' => e = .returned (.tuple #[.agg #[.int .i64 (cutA a b x), .int .i64 (cutM a b x)], .agg #[.int .i64 (cutM a b x), .int .i64 (cutB a b x)]]) ∧ Gr w w' := by
  go_enter Tryd.func26, Tryd.ntmps26
  go_wp2
  all_goals try (go_region; go_wp2)
  all_goals refine bodyPost_ret (v := _) (by simp [results, Tryd.results26, go_sem]; rfl) rfl ⟨?_, by repeat (first | exact Gr.refl _ | refine Gr.drew ?_ | refine Gr.alloc ?_ _ | refine Gr.set_ ?_ (by simp <;> omega) _)⟩
  all_goals try simp only [Bool.not_eq_true', Bool.not_eq_false', decide_eq_true_eq, decide_eq_false_iff_not, bne_iff_ne, beq_iff_eq, bne_eq_false_iff_eq, beq_eq_false_iff_ne, Bool.not_eq_eq_eq_not, Bool.not_true, Bool.not_false, ne_eq, Int.not_lt, Int.not_le] at *
  all_goals try simp only [Ending.returned.injEq, Value.tuple.injEq, Value.agg.injEq, Value.bool.injEq, Value.int.injEq, Array.mk.injEq, List.cons.injEq, and_true, true_and, cutA, cutM, cutB]
  all_goals (first | rfl | omega | (rw [Bool.eq_iff_iff]; simp only [decide_eq_true_eq, Bool.or_eq_true, Bool.and_eq_true, beq_iff_eq, Bool.false_eq_true, iff_false, false_iff, true_iff, iff_true]; omega) | (unfold wrap64; rw [if_pos (by omega), if_neg (by omega)]; omega) | (simp; omega) | skip)
end Go.Proofs.YtpcedmiehoimbaaDoor
