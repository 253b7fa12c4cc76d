/-
  The walks of the document's functions on spans that make no text, the third part.
-/
import Derived.Test.YtpcedmiehoimbaaDoorSpanWalkC
namespace Go.Proofs.YtpcedmiehoimbaaDoor
open Go.RowKit SpanP
theorem touchB_t {a b c d : Int} (h : touchB a b c d = true) : 0 ≤ a ∧ a ≤ b ∧ b ≤ 4611686018427387904 ∧ 0 ≤ c ∧ c ≤ d ∧ d ≤ 4611686018427387904 ∧ max a c ≤ min b d := of_decide_eq_true h
theorem touchB_f {a b c d : Int} (h : touchB a b c d = false) : ¬ (0 ≤ a ∧ a ≤ b ∧ b ≤ 4611686018427387904 ∧ 0 ≤ c ∧ c ≤ d ∧ d ≤ 4611686018427387904 ∧ max a c ≤ min b d) := of_decide_eq_false h
theorem rtouch_f (a b c d : Int) (w : World) (hr : rightB a b = false) : Calls Tryd.prog 37 #[.agg #[.int .i64 a, .int .i64 b], .agg #[.int .i64 c, .int .i64 d]] w fun e w' => e = .returned (.bool (touchB a b c d)) ∧ Gr w w' := by
  go_enter Tryd.func37, Tryd.ntmps37
  go_wp2_with fail
  refine (rright_calls _ _ _).mono ?_
  rintro e w1 ⟨rfl, g1⟩
  have f00 := g1.cell (b := w.heap.size) (i := 0) (v := .int .i64 a) (by first | assumption | simp [go_sem, *])
  have f01 := g1.cell (b := w.heap.size) (i := 1) (v := .int .i64 b) (by first | assumption | simp [go_sem, *])
  have f10 := g1.cell (b := w.heap.size + 1) (i := 0) (v := .int .i64 c) (by first | assumption | simp [go_sem, *])
  have f11 := g1.cell (b := w.heap.size + 1) (i := 1) (v := .int .i64 d) (by first | assumption | simp [go_sem, *])
  have s1 : w.heap.size + 1 < w1.heap.size := by have := g1.size; simp at this; omega
  have HG : Gr w w1 := (((Gr.refl w).alloc _).alloc _).trans g1
  clear g1
  clear s1
  go_wp2
  all_goals have k1 := rightB_f hr
  all_goals go_ret
  all_goals refine ⟨congrArg (fun x => Ending.returned (Value.bool x)) ?_, HG⟩
  all_goals (unfold touchB; first | (rw [Bool.eq_iff_iff]; simp only [decide_eq_true_eq, Bool.or_eq_true, Bool.and_eq_true, beq_iff_eq, Bool.false_eq_true, iff_false, false_iff, true_iff, iff_true] at *; omega) | skip)
theorem rtouch_tf (a b c d : Int) (w : World) (hr : rightB a b = true) (hr2 : rightB c d = false) : Calls Tryd.prog 37 #[.agg #[.int .i64 a, .int .i64 b], .agg #[.int .i64 c, .int .i64 d]] w fun e w' => e = .returned (.bool (touchB a b c d)) ∧ Gr w w' := by
  go_enter Tryd.func37, Tryd.ntmps37
  go_wp2_with fail
  refine (rright_calls _ _ _).mono ?_
  rintro e w1 ⟨rfl, g1⟩
  have f00 := g1.cell (b := w.heap.size) (i := 0) (v := .int .i64 a) (by first | assumption | simp [go_sem, *])
  have f01 := g1.cell (b := w.heap.size) (i := 1) (v := .int .i64 b) (by first | assumption | simp [go_sem, *])
  have f10 := g1.cell (b := w.heap.size + 1) (i := 0) (v := .int .i64 c) (by first | assumption | simp [go_sem, *])
  have f11 := g1.cell (b := w.heap.size + 1) (i := 1) (v := .int .i64 d) (by first | assumption | simp [go_sem, *])
  have s1 : w.heap.size + 1 < w1.heap.size := by have := g1.size; simp at this; omega
  have HG : Gr w w1 := (((Gr.refl w).alloc _).alloc _).trans g1
  clear g1
  go_wp2_with fail
  refine (rright_calls _ _ _).mono ?_
  rintro e w2 ⟨rfl, g2⟩
  replace f00 := g2.cell f00
  replace f01 := g2.cell f01
  replace f10 := g2.cell f10
  replace f11 := g2.cell f11
  replace s1 := Nat.lt_of_lt_of_le s1 g2.size
  replace HG := HG.trans g2
  clear g2
  clear s1
  go_wp2
  all_goals have k1 := rightB_t hr
  all_goals have k2 := rightB_f hr2
  all_goals go_ret
  all_goals refine ⟨congrArg (fun x => Ending.returned (Value.bool x)) ?_, HG⟩
  all_goals (unfold touchB; first | (rw [Bool.eq_iff_iff]; simp only [decide_eq_true_eq, Bool.or_eq_true, Bool.and_eq_true, beq_iff_eq, Bool.false_eq_true, iff_false, false_iff, true_iff, iff_true] at *; omega) | skip)
theorem rtouch_tt (a b c d : Int) (w : World) (hr : rightB a b = true) (hr2 : rightB c d = true) : Calls Tryd.prog 37 #[.agg #[.int .i64 a, .int .i64 b], .agg #[.int .i64 c, .int .i64 d]] w fun e w' => e = .returned (.bool (touchB a b c d)) ∧ Gr w w' := by
  go_enter Tryd.func37, Tryd.ntmps37
  go_wp2_with fail
  refine (rright_calls _ _ _).mono ?_
  rintro e w1 ⟨rfl, g1⟩
  have f00 := g1.cell (b := w.heap.size) (i := 0) (v := .int .i64 a) (by first | assumption | simp [go_sem, *])
  have f01 := g1.cell (b := w.heap.size) (i := 1) (v := .int .i64 b) (by first | assumption | simp [go_sem, *])
  have f10 := g1.cell (b := w.heap.size + 1) (i := 0) (v := .int .i64 c) (by first | assumption | simp [go_sem, *])
  have f11 := g1.cell (b := w.heap.size + 1) (i := 1) (v := .int .i64 d) (by first | assumption | simp [go_sem, *])
  have s1 : w.heap.size + 1 < w1.heap.size := by have := g1.size; simp at this; omega
  have HG : Gr w w1 := (((Gr.refl w).alloc _).alloc _).trans g1
  clear g1
  go_wp2_with fail
  refine (rright_calls _ _ _).mono ?_
  rintro e w2 ⟨rfl, g2⟩
  replace f00 := g2.cell f00
  replace f01 := g2.cell f01
  replace f10 := g2.cell f10
  replace f11 := g2.cell f11
  replace s1 := Nat.lt_of_lt_of_le s1 g2.size
  replace HG := HG.trans g2
  clear g2
  clear s1
  go_wp2
  all_goals have k1 := rightB_t hr
  all_goals have k2 := rightB_t hr2
  all_goals go_ret
  all_goals refine ⟨congrArg (fun x => Ending.returned (Value.bool x)) ?_, HG⟩
  all_goals (unfold touchB; first | (rw [Bool.eq_iff_iff]; simp only [decide_eq_true_eq, Bool.or_eq_true, Bool.and_eq_true, beq_iff_eq, Bool.false_eq_true, iff_false, false_iff, true_iff, iff_true] at *; omega) | skip)
theorem rtouch_calls (a b c d : Int) (w : World) : Calls Tryd.prog 37 #[.agg #[.int .i64 a, .int .i64 b], .agg #[.int .i64 c, .int .i64 d]] w fun e w' => e = .returned (.bool (touchB a b c d)) ∧ Gr w w' := by
  cases hr : rightB a b <;> cases hr2 : rightB c d
  · exact rtouch_f a b c d w hr
  · exact rtouch_f a b c d w hr
  · exact rtouch_tf a b c d w hr hr2
  · exact rtouch_tt a b c d w hr hr2
theorem rwithin_f (a b c d : Int) (w : World) (hr : rightB a b = false) : Calls Tryd.prog 22 #[.agg #[.int .i64 a, .int .i64 b], .agg #[.int .i64 c, .int .i64 d]] w fun e w' => e = .returned (.bool (withinB a b c d)) ∧ Gr w w' := by
  go_enter Tryd.func22, Tryd.ntmps22
  go_wp2_with fail
  refine (rright_calls _ _ _).mono ?_
  rintro e w1 ⟨rfl, g1⟩
  have f00 := g1.cell (b := w.heap.size) (i := 0) (v := .int .i64 a) (by first | assumption | simp [go_sem, *])
  have f01 := g1.cell (b := w.heap.size) (i := 1) (v := .int .i64 b) (by first | assumption | simp [go_sem, *])
  have f10 := g1.cell (b := w.heap.size + 1) (i := 0) (v := .int .i64 c) (by first | assumption | simp [go_sem, *])
  have f11 := g1.cell (b := w.heap.size + 1) (i := 1) (v := .int .i64 d) (by first | assumption | simp [go_sem, *])
  have s1 : w.heap.size + 1 < w1.heap.size := by have := g1.size; simp at this; omega
  have HG : Gr w w1 := (((Gr.refl w).alloc _).alloc _).trans g1
  clear g1
  clear s1
  go_wp2
  all_goals have k1 := rightB_f hr
  all_goals go_ret
  all_goals refine ⟨congrArg (fun x => Ending.returned (Value.bool x)) ?_, HG⟩
  all_goals (unfold withinB; first | (rw [Bool.eq_iff_iff]; simp only [decide_eq_true_eq, Bool.or_eq_true, Bool.and_eq_true, beq_iff_eq, Bool.false_eq_true, iff_false, false_iff, true_iff, iff_true] at *; omega) | skip)
theorem rwithin_tf (a b c d : Int) (w : World) (hr : rightB a b = true) (hr2 : rightB c d = false) : Calls Tryd.prog 22 #[.agg #[.int .i64 a, .int .i64 b], .agg #[.int .i64 c, .int .i64 d]] w fun e w' => e = .returned (.bool (withinB a b c d)) ∧ Gr w w' := by
  go_enter Tryd.func22, Tryd.ntmps22
  go_wp2_with fail
  refine (rright_calls _ _ _).mono ?_
  rintro e w1 ⟨rfl, g1⟩
  have f00 := g1.cell (b := w.heap.size) (i := 0) (v := .int .i64 a) (by first | assumption | simp [go_sem, *])
  have f01 := g1.cell (b := w.heap.size) (i := 1) (v := .int .i64 b) (by first | assumption | simp [go_sem, *])
  have f10 := g1.cell (b := w.heap.size + 1) (i := 0) (v := .int .i64 c) (by first | assumption | simp [go_sem, *])
  have f11 := g1.cell (b := w.heap.size + 1) (i := 1) (v := .int .i64 d) (by first | assumption | simp [go_sem, *])
  have s1 : w.heap.size + 1 < w1.heap.size := by have := g1.size; simp at this; omega
  have HG : Gr w w1 := (((Gr.refl w).alloc _).alloc _).trans g1
  clear g1
  go_wp2_with fail
  refine (rright_calls _ _ _).mono ?_
  rintro e w2 ⟨rfl, g2⟩
  replace f00 := g2.cell f00
  replace f01 := g2.cell f01
  replace f10 := g2.cell f10
  replace f11 := g2.cell f11
  replace s1 := Nat.lt_of_lt_of_le s1 g2.size
  replace HG := HG.trans g2
  clear g2
  clear s1
  go_wp2
  all_goals have k1 := rightB_t hr
  all_goals have k2 := rightB_f hr2
  all_goals go_ret
  all_goals refine ⟨congrArg (fun x => Ending.returned (Value.bool x)) ?_, HG⟩
  all_goals (unfold withinB; first | (rw [Bool.eq_iff_iff]; simp only [decide_eq_true_eq, Bool.or_eq_true, Bool.and_eq_true, beq_iff_eq, Bool.false_eq_true, iff_false, false_iff, true_iff, iff_true] at *; omega) | skip)
theorem rwithin_tt (a b c d : Int) (w : World) (hr : rightB a b = true) (hr2 : rightB c d = true) : Calls Tryd.prog 22 #[.agg #[.int .i64 a, .int .i64 b], .agg #[.int .i64 c, .int .i64 d]] w fun e w' => e = .returned (.bool (withinB a b c d)) ∧ Gr w w' := by
  go_enter Tryd.func22, Tryd.ntmps22
  go_wp2_with fail
  refine (rright_calls _ _ _).mono ?_
  rintro e w1 ⟨rfl, g1⟩
  have f00 := g1.cell (b := w.heap.size) (i := 0) (v := .int .i64 a) (by first | assumption | simp [go_sem, *])
  have f01 := g1.cell (b := w.heap.size) (i := 1) (v := .int .i64 b) (by first | assumption | simp [go_sem, *])
  have f10 := g1.cell (b := w.heap.size + 1) (i := 0) (v := .int .i64 c) (by first | assumption | simp [go_sem, *])
  have f11 := g1.cell (b := w.heap.size + 1) (i := 1) (v := .int .i64 d) (by first | assumption | simp [go_sem, *])
  have s1 : w.heap.size + 1 < w1.heap.size := by have := g1.size; simp at this; omega
  have HG : Gr w w1 := (((Gr.refl w).alloc _).alloc _).trans g1
  clear g1
  go_wp2_with fail
  refine (rright_calls _ _ _).mono ?_
  rintro e w2 ⟨rfl, g2⟩
  replace f00 := g2.cell f00
  replace f01 := g2.cell f01
  replace f10 := g2.cell f10
  replace f11 := g2.cell f11
  replace s1 := Nat.lt_of_lt_of_le s1 g2.size
  replace HG := HG.trans g2
  clear g2
  clear s1
  go_wp2
  all_goals have k1 := rightB_t hr
  all_goals have k2 := rightB_t hr2
  all_goals go_ret
  all_goals refine ⟨congrArg (fun x => Ending.returned (Value.bool x)) ?_, HG⟩
  all_goals (unfold withinB; first | (rw [Bool.eq_iff_iff]; simp only [decide_eq_true_eq, Bool.or_eq_true, Bool.and_eq_true, beq_iff_eq, Bool.false_eq_true, iff_false, false_iff, true_iff, iff_true] at *; omega) | skip)
theorem rwithin_calls (a b c d : Int) (w : World) : Calls Tryd.prog 22 #[.agg #[.int .i64 a, .int .i64 b], .agg #[.int .i64 c, .int .i64 d]] w fun e w' => e = .returned (.bool (withinB a b c d)) ∧ Gr w w' := by
  cases hr : rightB a b <;> cases hr2 : rightB c d
  · exact rwithin_f a b c d w hr
  · exact rwithin_f a b c d w hr
  · exact rwithin_tf a b c d w hr hr2
  · exact rwithin_tt a b c d w hr hr2
set_option maxHeartbeats 1600000 in
theorem rcut_f (a b x : Int) (w : World) (hr : rightB a b = false) : Calls Tryd.prog 27 #[.agg #[.int .i64 a, .int .i64 b], .int .i64 x] w fun e w' => e = .returned (.tuple #[.agg #[.int .i64 (cutA a b x), .int .i64 (cutM a b x)], .agg #[.int .i64 (cutM a b x), .int .i64 (cutB a b x)]]) ∧ Gr w w' := by
  go_enter Tryd.func27, Tryd.ntmps27
  go_wp2_with fail
  refine (rright_calls _ _ _).mono ?_
  rintro e w1 ⟨rfl, g1⟩
  have f00 := g1.cell (b := w.heap.size) (i := 0) (v := .int .i64 a) (by first | assumption | simp [go_sem, *])
  have f01 := g1.cell (b := w.heap.size) (i := 1) (v := .int .i64 b) (by first | assumption | simp [go_sem, *])
  have f10 := g1.cell (b := w.heap.size + 1) (i := 0) (v := .int .i64 0) (by first | assumption | simp [go_sem, *])
  have f11 := g1.cell (b := w.heap.size + 1) (i := 1) (v := .int .i64 0) (by first | assumption | simp [go_sem, *])
  have f20 := g1.cell (b := w.heap.size + 1 + 1) (i := 0) (v := .int .i64 0) (by first | assumption | simp [go_sem, *])
  have f21 := g1.cell (b := w.heap.size + 1 + 1) (i := 1) (v := .int .i64 0) (by first | assumption | simp [go_sem, *])
  have z10 := g1.froz (b := w.heap.size + 1) (i := 0) (by simp <;> omega) (by simp [go_sem])
  have z11 := g1.froz (b := w.heap.size + 1) (i := 1) (by simp <;> omega) (by simp [go_sem])
  have z20 := g1.froz (b := w.heap.size + 1 + 1) (i := 0) (by simp <;> omega) (by simp [go_sem])
  have z21 := g1.froz (b := w.heap.size + 1 + 1) (i := 1) (by simp <;> omega) (by simp [go_sem])
  have s1 : w.heap.size + 1 + 1 < w1.heap.size := by have := g1.size; simp at this; omega
  have HG : Gr w w1 := ((((Gr.refl w).alloc _).alloc _).alloc _).trans g1
  clear g1
  clear s1
  go_wp2
  all_goals try (go_region; go_wp2)
  all_goals have k1 := rightB_f hr
  all_goals refine bodyPost_ret (v := _) (by simp [results, Tryd.results27, go_sem, *]; rfl) rfl ⟨?_, by repeat (first | exact HG | refine Gr.drew ?_ | refine Gr.set_ ?_ (by simp <;> omega) _)⟩
  all_goals simp only [Ending.returned.injEq, Value.tuple.injEq, Value.agg.injEq, Value.bool.injEq, Value.int.injEq, Array.mk.injEq, List.cons.injEq, and_true, true_and, cutA, cutM, cutB]
  all_goals (first | rfl | omega | (simp; done) | (simp; omega) | (refine ⟨?_, ?_⟩ <;> first | rfl | omega | (simp; omega)))
set_option maxHeartbeats 1600000 in
theorem rcut_t (a b x : Int) (w : World) (hr : rightB a b = true) : Calls Tryd.prog 27 #[.agg #[.int .i64 a, .int .i64 b], .int .i64 x] w fun e w' => e = .returned (.tuple #[.agg #[.int .i64 (cutA a b x), .int .i64 (cutM a b x)], .agg #[.int .i64 (cutM a b x), .int .i64 (cutB a b x)]]) ∧ Gr w w' := by
  go_enter Tryd.func27, Tryd.ntmps27
  go_wp2_with fail
  refine (rright_calls _ _ _).mono ?_
  rintro e w1 ⟨rfl, g1⟩
  have f00 := g1.cell (b := w.heap.size) (i := 0) (v := .int .i64 a) (by first | assumption | simp [go_sem, *])
  have f01 := g1.cell (b := w.heap.size) (i := 1) (v := .int .i64 b) (by first | assumption | simp [go_sem, *])
  have f10 := g1.cell (b := w.heap.size + 1) (i := 0) (v := .int .i64 0) (by first | assumption | simp [go_sem, *])
  have f11 := g1.cell (b := w.heap.size + 1) (i := 1) (v := .int .i64 0) (by first | assumption | simp [go_sem, *])
  have f20 := g1.cell (b := w.heap.size + 1 + 1) (i := 0) (v := .int .i64 0) (by first | assumption | simp [go_sem, *])
  have f21 := g1.cell (b := w.heap.size + 1 + 1) (i := 1) (v := .int .i64 0) (by first | assumption | simp [go_sem, *])
  have z10 := g1.froz (b := w.heap.size + 1) (i := 0) (by simp <;> omega) (by simp [go_sem])
  have z11 := g1.froz (b := w.heap.size + 1) (i := 1) (by simp <;> omega) (by simp [go_sem])
  have z20 := g1.froz (b := w.heap.size + 1 + 1) (i := 0) (by simp <;> omega) (by simp [go_sem])
  have z21 := g1.froz (b := w.heap.size + 1 + 1) (i := 1) (by simp <;> omega) (by simp [go_sem])
  have s1 : w.heap.size + 1 + 1 < w1.heap.size := by have := g1.size; simp at this; omega
  have HG : Gr w w1 := ((((Gr.refl w).alloc _).alloc _).alloc _).trans g1
  clear g1
  clear s1
  go_wp2
  all_goals try (go_region; go_wp2)
  all_goals have k1 := rightB_t hr
  all_goals refine bodyPost_ret (v := _) (by simp [results, Tryd.results27, go_sem, *]; rfl) rfl ⟨?_, by repeat (first | exact HG | refine Gr.drew ?_ | refine Gr.set_ ?_ (by simp <;> omega) _)⟩
  all_goals simp only [Ending.returned.injEq, Value.tuple.injEq, Value.agg.injEq, Value.bool.injEq, Value.int.injEq, Array.mk.injEq, List.cons.injEq, and_true, true_and, cutA, cutM, cutB]
  all_goals (first | rfl | omega | (simp; done) | (simp; omega) | (refine ⟨?_, ?_⟩ <;> first | rfl | omega | (simp; omega)))
theorem rcut_calls (a b x : Int) (w : World) : Calls Tryd.prog 27 #[.agg #[.int .i64 a, .int .i64 b], .int .i64 x] w fun e w' => e = .returned (.tuple #[.agg #[.int .i64 (cutA a b x), .int .i64 (cutM a b x)], .agg #[.int .i64 (cutM a b x), .int .i64 (cutB a b x)]]) ∧ Gr w w' := by
  cases hr : rightB a b
  · exact rcut_f a b x w hr
  · exact rcut_t a b x w hr
set_option maxHeartbeats 1600000 in
theorem rjoin_f (a b c d : Int) (w : World) (hr : touchB a b c d = false) : Calls Tryd.prog 24 #[.agg #[.int .i64 a, .int .i64 b], .agg #[.int .i64 c, .int .i64 d]] w fun e w' => e = .returned (.tuple #[.agg #[.int .i64 (joinF a b c d), .int .i64 (joinT a b c d)], .bool (touchB a b c d)]) ∧ Gr w w' := by
  go_enter Tryd.func24, Tryd.ntmps24
  go_wp2_with fail
  refine (rtouch_calls _ _ _ _ _).mono ?_
  rintro e w1 ⟨rfl, g1⟩
  have f00 := g1.cell (b := w.heap.size) (i := 0) (v := .int .i64 a) (by first | assumption | simp [go_sem, *])
  have f01 := g1.cell (b := w.heap.size) (i := 1) (v := .int .i64 b) (by first | assumption | simp [go_sem, *])
  have f10 := g1.cell (b := w.heap.size + 1) (i := 0) (v := .int .i64 c) (by first | assumption | simp [go_sem, *])
  have f11 := g1.cell (b := w.heap.size + 1) (i := 1) (v := .int .i64 d) (by first | assumption | simp [go_sem, *])
  have f20 := g1.cell (b := w.heap.size + 1 + 1) (i := 0) (v := .int .i64 0) (by first | assumption | simp [go_sem, *])
  have f21 := g1.cell (b := w.heap.size + 1 + 1) (i := 1) (v := .int .i64 0) (by first | assumption | simp [go_sem, *])
  have z00 := g1.froz (b := w.heap.size) (i := 0) (by simp <;> omega) (by simp [go_sem])
  have z01 := g1.froz (b := w.heap.size) (i := 1) (by simp <;> omega) (by simp [go_sem])
  have z20 := g1.froz (b := w.heap.size + 1 + 1) (i := 0) (by simp <;> omega) (by simp [go_sem])
  have z21 := g1.froz (b := w.heap.size + 1 + 1) (i := 1) (by simp <;> omega) (by simp [go_sem])
  have s1 : w.heap.size + 1 + 1 < w1.heap.size := by have := g1.size; simp at this; omega
  have HG : Gr w w1 := ((((Gr.refl w).alloc _).alloc _).alloc _).trans g1
  clear g1
  clear s1
  go_wp2
  all_goals try (go_region; go_wp2)
  all_goals have k1 := touchB_f hr
  all_goals refine bodyPost_ret (v := _) (by simp [results, Tryd.results24, go_sem, *]; rfl) rfl ⟨?_, by repeat (first | exact HG | refine Gr.drew ?_ | refine Gr.set_ ?_ (by simp <;> omega) _)⟩
  all_goals simp only [Ending.returned.injEq, Value.tuple.injEq, Value.agg.injEq, Value.bool.injEq, Value.int.injEq, Array.mk.injEq, List.cons.injEq, and_true, true_and, joinF, joinT, touchB]
  all_goals (first | rfl | omega | (simp; done) | (simp; omega) | (refine ⟨?_, ?_⟩ <;> first | rfl | omega | (simp; omega)))
set_option maxHeartbeats 1600000 in
theorem rjoin_t (a b c d : Int) (w : World) (hr : touchB a b c d = true) : Calls Tryd.prog 24 #[.agg #[.int .i64 a, .int .i64 b], .agg #[.int .i64 c, .int .i64 d]] w fun e w' => e = .returned (.tuple #[.agg #[.int .i64 (joinF a b c d), .int .i64 (joinT a b c d)], .bool (touchB a b c d)]) ∧ Gr w w' := by
  go_enter Tryd.func24, Tryd.ntmps24
  go_wp2_with fail
  refine (rtouch_calls _ _ _ _ _).mono ?_
  rintro e w1 ⟨rfl, g1⟩
  have f00 := g1.cell (b := w.heap.size) (i := 0) (v := .int .i64 a) (by first | assumption | simp [go_sem, *])
  have f01 := g1.cell (b := w.heap.size) (i := 1) (v := .int .i64 b) (by first | assumption | simp [go_sem, *])
  have f10 := g1.cell (b := w.heap.size + 1) (i := 0) (v := .int .i64 c) (by first | assumption | simp [go_sem, *])
  have f11 := g1.cell (b := w.heap.size + 1) (i := 1) (v := .int .i64 d) (by first | assumption | simp [go_sem, *])
  have f20 := g1.cell (b := w.heap.size + 1 + 1) (i := 0) (v := .int .i64 0) (by first | assumption | simp [go_sem, *])
  have f21 := g1.cell (b := w.heap.size + 1 + 1) (i := 1) (v := .int .i64 0) (by first | assumption | simp [go_sem, *])
  have z00 := g1.froz (b := w.heap.size) (i := 0) (by simp <;> omega) (by simp [go_sem])
  have z01 := g1.froz (b := w.heap.size) (i := 1) (by simp <;> omega) (by simp [go_sem])
  have z20 := g1.froz (b := w.heap.size + 1 + 1) (i := 0) (by simp <;> omega) (by simp [go_sem])
  have z21 := g1.froz (b := w.heap.size + 1 + 1) (i := 1) (by simp <;> omega) (by simp [go_sem])
  have s1 : w.heap.size + 1 + 1 < w1.heap.size := by have := g1.size; simp at this; omega
  have HG : Gr w w1 := ((((Gr.refl w).alloc _).alloc _).alloc _).trans g1
  clear g1
  clear s1
  go_wp2
  all_goals try (go_region; go_wp2)
  all_goals have k1 := touchB_t hr
  all_goals refine bodyPost_ret (v := _) (by simp [results, Tryd.results24, go_sem, *]; rfl) rfl ⟨?_, by repeat (first | exact HG | refine Gr.drew ?_ | refine Gr.set_ ?_ (by simp <;> omega) _)⟩
  all_goals simp only [Ending.returned.injEq, Value.tuple.injEq, Value.agg.injEq, Value.bool.injEq, Value.int.injEq, Array.mk.injEq, List.cons.injEq, and_true, true_and, joinF, joinT, touchB]
  all_goals (first | rfl | omega | (simp; done) | (simp; omega) | (refine ⟨?_, ?_⟩ <;> first | rfl | omega | (simp; omega)))
theorem rjoin_calls (a b c d : Int) (w : World) : Calls Tryd.prog 24 #[.agg #[.int .i64 a, .int .i64 b], .agg #[.int .i64 c, .int .i64 d]] w fun e w' => e = .returned (.tuple #[.agg #[.int .i64 (joinF a b c d), .int .i64 (joinT a b c d)], .bool (touchB a b c d)]) ∧ Gr w w' := by
  cases hr : touchB a b c d
  · rw [← hr]; exact rjoin_f a b c d w hr
  · rw [← hr]; exact rjoin_t a b c d w hr
end Go.Proofs.YtpcedmiehoimbaaDoor
