/-
  The walks of the program's functions on spans that make no text, first half.
-/
import Derived.Test.YtpcedmiehoimbaaDoorSpanMem
namespace Go.Proofs.YtpcedmiehoimbaaDoor
open Go.RowKit SpanP
set_option maxRecDepth 100000 in
theorem sright_calls (a b : Int) (w : World) : Calls Tryd.prog 13 #[.agg #[.int .i64 a, .int .i64 b]] w fun e w' => e = .returned (.bool (rightB a b)) ∧ Gr w w' := by
  go_enter Tryd.func13, Tryd.ntmps13
  go_wp2
  all_goals try (go_region; go_wp2)
  all_goals refine bodyPost_ret (v := _) (by simp [results, Tryd.results13, go_sem]; rfl) rfl ⟨?_, by repeat (first | exact Gr.refl _ | refine Gr.drew ?_ | refine Gr.alloc ?_ _ | refine Gr.set_ ?_ (by simp <;> omega) _)⟩
  all_goals try simp only [Bool.not_eq_true', Bool.not_eq_false', decide_eq_true_eq, decide_eq_false_iff_not, bne_iff_ne, beq_iff_eq, bne_eq_false_iff_eq, beq_eq_false_iff_ne, Bool.not_eq_eq_eq_not, Bool.not_true, Bool.not_false, ne_eq, Int.not_lt, Int.not_le] at *
  all_goals try simp only [Ending.returned.injEq, Value.tuple.injEq, Value.agg.injEq, Value.bool.injEq, Value.int.injEq, Array.mk.injEq, List.cons.injEq, and_true, true_and, rightB]
  all_goals (first | rfl | omega | (rw [Bool.eq_iff_iff]; simp only [decide_eq_true_eq, Bool.or_eq_true, Bool.and_eq_true, beq_iff_eq, Bool.false_eq_true, iff_false, false_iff, true_iff, iff_true]; omega) | (unfold wrap64; rw [if_pos (by omega), if_neg (by omega)]; omega) | (simp; omega) | skip)
set_option maxRecDepth 100000 in
theorem slen_calls (a b : Int) (w : World) : Calls Tryd.prog 15 #[.agg #[.int .i64 a, .int .i64 b]] w fun e w' => e = .returned (.int .i64 (lenI a b)) ∧ Gr w w' := by
  go_enter Tryd.func15, Tryd.ntmps15
  go_wp2
  all_goals try (go_region; go_wp2)
  all_goals refine bodyPost_ret (v := _) (by simp [results, Tryd.results15, go_sem]; rfl) rfl ⟨?_, by repeat (first | exact Gr.refl _ | refine Gr.drew ?_ | refine Gr.alloc ?_ _ | refine Gr.set_ ?_ (by simp <;> omega) _)⟩
  all_goals try simp only [Bool.not_eq_true', Bool.not_eq_false', decide_eq_true_eq, decide_eq_false_iff_not, bne_iff_ne, beq_iff_eq, bne_eq_false_iff_eq, beq_eq_false_iff_ne, Bool.not_eq_eq_eq_not, Bool.not_true, Bool.not_false, ne_eq, Int.not_lt, Int.not_le] at *
  all_goals try simp only [Ending.returned.injEq, Value.tuple.injEq, Value.agg.injEq, Value.bool.injEq, Value.int.injEq, Array.mk.injEq, List.cons.injEq, and_true, true_and, lenI]
  all_goals (first | rfl | omega | (rw [Bool.eq_iff_iff]; simp only [decide_eq_true_eq, Bool.or_eq_true, Bool.and_eq_true, beq_iff_eq, Bool.false_eq_true, iff_false, false_iff, true_iff, iff_true]; omega) | (unfold wrap64; rw [if_pos (by omega), if_neg (by omega)]; omega) | (simp; omega) | skip)
set_option maxRecDepth 100000 in
theorem shas_calls (a b x : Int) (w : World) : Calls Tryd.prog 17 #[.agg #[.int .i64 a, .int .i64 b], .int .i64 x] w fun e w' => e = .returned (.bool (hasB a b x)) ∧ Gr w w' := by
  go_enter Tryd.func17, Tryd.ntmps17
  go_wp2
  all_goals try (go_region; go_wp2)
  all_goals refine bodyPost_ret (v := _) (by simp [results, Tryd.results17, go_sem]; rfl) rfl ⟨?_, by repeat (first | exact Gr.refl _ | refine Gr.drew ?_ | refine Gr.alloc ?_ _ | refine Gr.set_ ?_ (by simp <;> omega) _)⟩
  all_goals try simp only [Bool.not_eq_true', Bool.not_eq_false', decide_eq_true_eq, decide_eq_false_iff_not, bne_iff_ne, beq_iff_eq, bne_eq_false_iff_eq, beq_eq_false_iff_ne, Bool.not_eq_eq_eq_not, Bool.not_true, Bool.not_false, ne_eq, Int.not_lt, Int.not_le] at *
  all_goals try simp only [Ending.returned.injEq, Value.tuple.injEq, Value.agg.injEq, Value.bool.injEq, Value.int.injEq, Array.mk.injEq, List.cons.injEq, and_true, true_and, hasB]
  all_goals (first | rfl | omega | (rw [Bool.eq_iff_iff]; simp only [decide_eq_true_eq, Bool.or_eq_true, Bool.and_eq_true, beq_iff_eq, Bool.false_eq_true, iff_false, false_iff, true_iff, iff_true]; omega) | (unfold wrap64; rw [if_pos (by omega), if_neg (by omega)]; omega) | (simp; omega) | skip)
set_option maxRecDepth 100000 in
theorem smeet_calls (a b c d : Int) (w : World) : Calls Tryd.prog 19 #[.agg #[.int .i64 a, .int .i64 b], .agg #[.int .i64 c, .int .i64 d]] w fun e w' => e = .returned (.tuple #[.agg #[.int .i64 (meetF a b c d), .int .i64 (meetT a b c d)], .bool (meetB a b c d)]) ∧ Gr w w' := by
  go_enter Tryd.func19, Tryd.ntmps19
  go_wp2
  all_goals try (go_region; go_wp2)
  all_goals refine bodyPost_ret (v := _) (by simp [results, Tryd.results19, go_sem]; rfl) rfl ⟨?_, by repeat (first | exact Gr.refl _ | refine Gr.drew ?_ | refine Gr.alloc ?_ _ | refine Gr.set_ ?_ (by simp <;> omega) _)⟩
  all_goals try simp only [Bool.not_eq_true', Bool.not_eq_false', decide_eq_true_eq, decide_eq_false_iff_not, bne_iff_ne, beq_iff_eq, bne_eq_false_iff_eq, beq_eq_false_iff_ne, Bool.not_eq_eq_eq_not, Bool.not_true, Bool.not_false, ne_eq, Int.not_lt, Int.not_le] at *
  all_goals try simp only [Ending.returned.injEq, Value.tuple.injEq, Value.agg.injEq, Value.bool.injEq, Value.int.injEq, Array.mk.injEq, List.cons.injEq, and_true, true_and, meetF, meetT, meetB]
  all_goals (first | rfl | omega | (rw [Bool.eq_iff_iff]; simp only [decide_eq_true_eq, Bool.or_eq_true, Bool.and_eq_true, beq_iff_eq, Bool.false_eq_true, iff_false, false_iff, true_iff, iff_true]; omega) | (unfold wrap64; rw [if_pos (by omega), if_neg (by omega)]; omega) | (simp; omega) | skip)
end Go.Proofs.YtpcedmiehoimbaaDoor
