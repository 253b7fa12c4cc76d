/-
  The walks of the document's functions on spans that make no text, the second part.
-/
import Derived.Test.YtpcedmiehoimbaaDoorSpanWalkB
namespace Go.Proofs.YtpcedmiehoimbaaDoor
open Go.RowKit SpanP
theorem rmeet_11f (a b c d : Int) (w : World) (p1 : a < c) (p2 : d < b) (hr : rightB a b = false) : Calls Tryd.prog 20 #[.agg #[.int .i64 a, .int .i64 b], .agg #[.int .i64 c, .int .i64 d]] w fun e w' => e = .returned (.tuple #[.agg #[.int .i64 (meetF a b c d), .int .i64 (meetT a b c d)], .bool (meetB a b c d)]) ∧ Gr w w' := by
  go_enter Tryd.func20, Tryd.ntmps20
  go_wp2_with fail
  refine (rright_calls _ _ _).mono ?_
  rintro e w1 ⟨rfl, g1⟩
  have f10 := g1.cell (b := w.heap.size + 1) (i := 0) (v := .int .i64 c) (by first | assumption | simp [go_sem, *])
  have f11 := g1.cell (b := w.heap.size + 1) (i := 1) (v := .int .i64 d) (by first | assumption | simp [go_sem, *])
  have f20 := g1.cell (b := w.heap.size + 1 + 1) (i := 0) (v := .int .i64 0) (by first | assumption | simp [go_sem, *])
  have f21 := g1.cell (b := w.heap.size + 1 + 1) (i := 1) (v := .int .i64 0) (by first | assumption | simp [go_sem, *])
  have f30 := g1.cell (b := w.heap.size + 1 + 1 + 1) (i := 0) (v := .int .i64 c) (by first | assumption | simp [go_sem, *])
  have f31 := g1.cell (b := w.heap.size + 1 + 1 + 1) (i := 1) (v := .int .i64 d) (by first | assumption | simp [go_sem, *])
  have z20 := g1.froz (b := w.heap.size + 1 + 1) (i := 0) (by simp <;> omega) (by simp [go_sem])
  have z21 := g1.froz (b := w.heap.size + 1 + 1) (i := 1) (by simp <;> omega) (by simp [go_sem])
  have s1 : w.heap.size + 1 + 1 + 1 < w1.heap.size := by have := g1.size; simp at this; omega
  have HG : Gr w w1 := (((((Gr.refl w).alloc _).alloc _).alloc _).alloc _).trans g1
  clear g1
  clear s1
  go_wp2
  all_goals have k1 := rightB_f hr
  all_goals refine bodyPost_ret (v := _) (by simp [results, Tryd.results20, go_sem, *]; rfl) rfl ⟨?_, by repeat (first | exact HG | refine Gr.drew ?_ | refine Gr.set_ ?_ (by simp <;> omega) _)⟩
  all_goals simp only [Ending.returned.injEq, Value.tuple.injEq, Value.agg.injEq, Value.bool.injEq, Value.int.injEq, Array.mk.injEq, List.cons.injEq, and_true, true_and, meetF, meetT, meetB]
  all_goals (first | rfl | omega | (simp; done) | (simp; omega) | (refine ⟨?_, ?_⟩ <;> first | rfl | omega | (simp; omega)))
theorem rmeet_11tf (a b c d : Int) (w : World) (p1 : a < c) (p2 : d < b) (hr : rightB a b = true) (hr2 : rightB c d = false) : Calls Tryd.prog 20 #[.agg #[.int .i64 a, .int .i64 b], .agg #[.int .i64 c, .int .i64 d]] w fun e w' => e = .returned (.tuple #[.agg #[.int .i64 (meetF a b c d), .int .i64 (meetT a b c d)], .bool (meetB a b c d)]) ∧ Gr w w' := by
  go_enter Tryd.func20, Tryd.ntmps20
  go_wp2_with fail
  refine (rright_calls _ _ _).mono ?_
  rintro e w1 ⟨rfl, g1⟩
  have f10 := g1.cell (b := w.heap.size + 1) (i := 0) (v := .int .i64 c) (by first | assumption | simp [go_sem, *])
  have f11 := g1.cell (b := w.heap.size + 1) (i := 1) (v := .int .i64 d) (by first | assumption | simp [go_sem, *])
  have f20 := g1.cell (b := w.heap.size + 1 + 1) (i := 0) (v := .int .i64 0) (by first | assumption | simp [go_sem, *])
  have f21 := g1.cell (b := w.heap.size + 1 + 1) (i := 1) (v := .int .i64 0) (by first | assumption | simp [go_sem, *])
  have f30 := g1.cell (b := w.heap.size + 1 + 1 + 1) (i := 0) (v := .int .i64 c) (by first | assumption | simp [go_sem, *])
  have f31 := g1.cell (b := w.heap.size + 1 + 1 + 1) (i := 1) (v := .int .i64 d) (by first | assumption | simp [go_sem, *])
  have z20 := g1.froz (b := w.heap.size + 1 + 1) (i := 0) (by simp <;> omega) (by simp [go_sem])
  have z21 := g1.froz (b := w.heap.size + 1 + 1) (i := 1) (by simp <;> omega) (by simp [go_sem])
  have s1 : w.heap.size + 1 + 1 + 1 < w1.heap.size := by have := g1.size; simp at this; omega
  have HG : Gr w w1 := (((((Gr.refl w).alloc _).alloc _).alloc _).alloc _).trans g1
  clear g1
  go_wp2_with fail
  refine (rright_calls _ _ _).mono ?_
  rintro e w2 ⟨rfl, g2⟩
  replace f10 := g2.cell f10
  replace f11 := g2.cell f11
  replace f20 := g2.cell f20
  replace f21 := g2.cell f21
  replace f30 := g2.cell f30
  replace f31 := g2.cell f31
  replace z20 := g2.froz (by omega) z20
  replace z21 := g2.froz (by omega) z21
  replace s1 := Nat.lt_of_lt_of_le s1 g2.size
  replace HG := HG.trans g2
  clear g2
  clear s1
  go_wp2
  all_goals have k1 := rightB_t hr
  all_goals have k2 := rightB_f hr2
  all_goals refine bodyPost_ret (v := _) (by simp [results, Tryd.results20, go_sem, *]; rfl) rfl ⟨?_, by repeat (first | exact HG | refine Gr.drew ?_ | refine Gr.set_ ?_ (by simp <;> omega) _)⟩
  all_goals simp only [Ending.returned.injEq, Value.tuple.injEq, Value.agg.injEq, Value.bool.injEq, Value.int.injEq, Array.mk.injEq, List.cons.injEq, and_true, true_and, meetF, meetT, meetB]
  all_goals (first | rfl | omega | (simp; done) | (simp; omega) | (refine ⟨?_, ?_⟩ <;> first | rfl | omega | (simp; omega)))
theorem rmeet_11tt (a b c d : Int) (w : World) (p1 : a < c) (p2 : d < b) (hr : rightB a b = true) (hr2 : rightB c d = true) : Calls Tryd.prog 20 #[.agg #[.int .i64 a, .int .i64 b], .agg #[.int .i64 c, .int .i64 d]] w fun e w' => e = .returned (.tuple #[.agg #[.int .i64 (meetF a b c d), .int .i64 (meetT a b c d)], .bool (meetB a b c d)]) ∧ Gr w w' := by
  go_enter Tryd.func20, Tryd.ntmps20
  go_wp2_with fail
  refine (rright_calls _ _ _).mono ?_
  rintro e w1 ⟨rfl, g1⟩
  have f10 := g1.cell (b := w.heap.size + 1) (i := 0) (v := .int .i64 c) (by first | assumption | simp [go_sem, *])
  have f11 := g1.cell (b := w.heap.size + 1) (i := 1) (v := .int .i64 d) (by first | assumption | simp [go_sem, *])
  have f20 := g1.cell (b := w.heap.size + 1 + 1) (i := 0) (v := .int .i64 0) (by first | assumption | simp [go_sem, *])
  have f21 := g1.cell (b := w.heap.size + 1 + 1) (i := 1) (v := .int .i64 0) (by first | assumption | simp [go_sem, *])
  have f30 := g1.cell (b := w.heap.size + 1 + 1 + 1) (i := 0) (v := .int .i64 c) (by first | assumption | simp [go_sem, *])
  have f31 := g1.cell (b := w.heap.size + 1 + 1 + 1) (i := 1) (v := .int .i64 d) (by first | assumption | simp [go_sem, *])
  have z20 := g1.froz (b := w.heap.size + 1 + 1) (i := 0) (by simp <;> omega) (by simp [go_sem])
  have z21 := g1.froz (b := w.heap.size + 1 + 1) (i := 1) (by simp <;> omega) (by simp [go_sem])
  have s1 : w.heap.size + 1 + 1 + 1 < w1.heap.size := by have := g1.size; simp at this; omega
  have HG : Gr w w1 := (((((Gr.refl w).alloc _).alloc _).alloc _).alloc _).trans g1
  clear g1
  go_wp2_with fail
  refine (rright_calls _ _ _).mono ?_
  rintro e w2 ⟨rfl, g2⟩
  replace f10 := g2.cell f10
  replace f11 := g2.cell f11
  replace f20 := g2.cell f20
  replace f21 := g2.cell f21
  replace f30 := g2.cell f30
  replace f31 := g2.cell f31
  replace z20 := g2.froz (by omega) z20
  replace z21 := g2.froz (by omega) z21
  replace s1 := Nat.lt_of_lt_of_le s1 g2.size
  replace HG := HG.trans g2
  clear g2
  clear s1
  go_wp2
  all_goals have k1 := rightB_t hr
  all_goals have k2 := rightB_t hr2
  all_goals refine bodyPost_ret (v := _) (by simp [results, Tryd.results20, go_sem, *]; rfl) rfl ⟨?_, by repeat (first | exact HG | refine Gr.drew ?_ | refine Gr.set_ ?_ (by simp <;> omega) _)⟩
  all_goals simp only [Ending.returned.injEq, Value.tuple.injEq, Value.agg.injEq, Value.bool.injEq, Value.int.injEq, Array.mk.injEq, List.cons.injEq, and_true, true_and, meetF, meetT, meetB]
  all_goals (first | rfl | omega | (simp; done) | (simp; omega) | (refine ⟨?_, ?_⟩ <;> first | rfl | omega | (simp; omega)))
theorem rmeet_10f (a b c d : Int) (w : World) (p1 : a < c) (p2 : ¬ d < b) (hr : rightB a b = false) : Calls Tryd.prog 20 #[.agg #[.int .i64 a, .int .i64 b], .agg #[.int .i64 c, .int .i64 d]] w fun e w' => e = .returned (.tuple #[.agg #[.int .i64 (meetF a b c d), .int .i64 (meetT a b c d)], .bool (meetB a b c d)]) ∧ Gr w w' := by
  go_enter Tryd.func20, Tryd.ntmps20
  go_wp2_with fail
  refine (rright_calls _ _ _).mono ?_
  rintro e w1 ⟨rfl, g1⟩
  have f10 := g1.cell (b := w.heap.size + 1) (i := 0) (v := .int .i64 c) (by first | assumption | simp [go_sem, *])
  have f11 := g1.cell (b := w.heap.size + 1) (i := 1) (v := .int .i64 d) (by first | assumption | simp [go_sem, *])
  have f20 := g1.cell (b := w.heap.size + 1 + 1) (i := 0) (v := .int .i64 0) (by first | assumption | simp [go_sem, *])
  have f21 := g1.cell (b := w.heap.size + 1 + 1) (i := 1) (v := .int .i64 0) (by first | assumption | simp [go_sem, *])
  have f30 := g1.cell (b := w.heap.size + 1 + 1 + 1) (i := 0) (v := .int .i64 c) (by first | assumption | simp [go_sem, *])
  have f31 := g1.cell (b := w.heap.size + 1 + 1 + 1) (i := 1) (v := .int .i64 b) (by first | assumption | simp [go_sem, *])
  have z20 := g1.froz (b := w.heap.size + 1 + 1) (i := 0) (by simp <;> omega) (by simp [go_sem])
  have z21 := g1.froz (b := w.heap.size + 1 + 1) (i := 1) (by simp <;> omega) (by simp [go_sem])
  have s1 : w.heap.size + 1 + 1 + 1 < w1.heap.size := by have := g1.size; simp at this; omega
  have HG : Gr w w1 := (((((Gr.refl w).alloc _).alloc _).alloc _).alloc _).trans g1
  clear g1
  clear s1
  go_wp2
  all_goals have k1 := rightB_f hr
  all_goals refine bodyPost_ret (v := _) (by simp [results, Tryd.results20, go_sem, *]; rfl) rfl ⟨?_, by repeat (first | exact HG | refine Gr.drew ?_ | refine Gr.set_ ?_ (by simp <;> omega) _)⟩
  all_goals simp only [Ending.returned.injEq, Value.tuple.injEq, Value.agg.injEq, Value.bool.injEq, Value.int.injEq, Array.mk.injEq, List.cons.injEq, and_true, true_and, meetF, meetT, meetB]
  all_goals (first | rfl | omega | (simp; done) | (simp; omega) | (refine ⟨?_, ?_⟩ <;> first | rfl | omega | (simp; omega)))
theorem rmeet_10tf (a b c d : Int) (w : World) (p1 : a < c) (p2 : ¬ d < b) (hr : rightB a b = true) (hr2 : rightB c d = false) : Calls Tryd.prog 20 #[.agg #[.int .i64 a, .int .i64 b], .agg #[.int .i64 c, .int .i64 d]] w fun e w' => e = .returned (.tuple #[.agg #[.int .i64 (meetF a b c d), .int .i64 (meetT a b c d)], .bool (meetB a b c d)]) ∧ Gr w w' := by
  go_enter Tryd.func20, Tryd.ntmps20
  go_wp2_with fail
  refine (rright_calls _ _ _).mono ?_
  rintro e w1 ⟨rfl, g1⟩
  have f10 := g1.cell (b := w.heap.size + 1) (i := 0) (v := .int .i64 c) (by first | assumption | simp [go_sem, *])
  have f11 := g1.cell (b := w.heap.size + 1) (i := 1) (v := .int .i64 d) (by first | assumption | simp [go_sem, *])
  have f20 := g1.cell (b := w.heap.size + 1 + 1) (i := 0) (v := .int .i64 0) (by first | assumption | simp [go_sem, *])
  have f21 := g1.cell (b := w.heap.size + 1 + 1) (i := 1) (v := .int .i64 0) (by first | assumption | simp [go_sem, *])
  have f30 := g1.cell (b := w.heap.size + 1 + 1 + 1) (i := 0) (v := .int .i64 c) (by first | assumption | simp [go_sem, *])
  have f31 := g1.cell (b := w.heap.size + 1 + 1 + 1) (i := 1) (v := .int .i64 b) (by first | assumption | simp [go_sem, *])
  have z20 := g1.froz (b := w.heap.size + 1 + 1) (i := 0) (by simp <;> omega) (by simp [go_sem])
  have z21 := g1.froz (b := w.heap.size + 1 + 1) (i := 1) (by simp <;> omega) (by simp [go_sem])
  have s1 : w.heap.size + 1 + 1 + 1 < w1.heap.size := by have := g1.size; simp at this; omega
  have HG : Gr w w1 := (((((Gr.refl w).alloc _).alloc _).alloc _).alloc _).trans g1
  clear g1
  go_wp2_with fail
  refine (rright_calls _ _ _).mono ?_
  rintro e w2 ⟨rfl, g2⟩
  replace f10 := g2.cell f10
  replace f11 := g2.cell f11
  replace f20 := g2.cell f20
  replace f21 := g2.cell f21
  replace f30 := g2.cell f30
  replace f31 := g2.cell f31
  replace z20 := g2.froz (by omega) z20
  replace z21 := g2.froz (by omega) z21
  replace s1 := Nat.lt_of_lt_of_le s1 g2.size
  replace HG := HG.trans g2
  clear g2
  clear s1
  go_wp2
  all_goals have k1 := rightB_t hr
  all_goals have k2 := rightB_f hr2
  all_goals refine bodyPost_ret (v := _) (by simp [results, Tryd.results20, go_sem, *]; rfl) rfl ⟨?_, by repeat (first | exact HG | refine Gr.drew ?_ | refine Gr.set_ ?_ (by simp <;> omega) _)⟩
  all_goals simp only [Ending.returned.injEq, Value.tuple.injEq, Value.agg.injEq, Value.bool.injEq, Value.int.injEq, Array.mk.injEq, List.cons.injEq, and_true, true_and, meetF, meetT, meetB]
  all_goals (first | rfl | omega | (simp; done) | (simp; omega) | (refine ⟨?_, ?_⟩ <;> first | rfl | omega | (simp; omega)))
theorem rmeet_10tt (a b c d : Int) (w : World) (p1 : a < c) (p2 : ¬ d < b) (hr : rightB a b = true) (hr2 : rightB c d = true) : Calls Tryd.prog 20 #[.agg #[.int .i64 a, .int .i64 b], .agg #[.int .i64 c, .int .i64 d]] w fun e w' => e = .returned (.tuple #[.agg #[.int .i64 (meetF a b c d), .int .i64 (meetT a b c d)], .bool (meetB a b c d)]) ∧ Gr w w' := by
  go_enter Tryd.func20, Tryd.ntmps20
  go_wp2_with fail
  refine (rright_calls _ _ _).mono ?_
  rintro e w1 ⟨rfl, g1⟩
  have f10 := g1.cell (b := w.heap.size + 1) (i := 0) (v := .int .i64 c) (by first | assumption | simp [go_sem, *])
  have f11 := g1.cell (b := w.heap.size + 1) (i := 1) (v := .int .i64 d) (by first | assumption | simp [go_sem, *])
  have f20 := g1.cell (b := w.heap.size + 1 + 1) (i := 0) (v := .int .i64 0) (by first | assumption | simp [go_sem, *])
  have f21 := g1.cell (b := w.heap.size + 1 + 1) (i := 1) (v := .int .i64 0) (by first | assumption | simp [go_sem, *])
  have f30 := g1.cell (b := w.heap.size + 1 + 1 + 1) (i := 0) (v := .int .i64 c) (by first | assumption | simp [go_sem, *])
  have f31 := g1.cell (b := w.heap.size + 1 + 1 + 1) (i := 1) (v := .int .i64 b) (by first | assumption | simp [go_sem, *])
  have z20 := g1.froz (b := w.heap.size + 1 + 1) (i := 0) (by simp <;> omega) (by simp [go_sem])
  have z21 := g1.froz (b := w.heap.size + 1 + 1) (i := 1) (by simp <;> omega) (by simp [go_sem])
  have s1 : w.heap.size + 1 + 1 + 1 < w1.heap.size := by have := g1.size; simp at this; omega
  have HG : Gr w w1 := (((((Gr.refl w).alloc _).alloc _).alloc _).alloc _).trans g1
  clear g1
  go_wp2_with fail
  refine (rright_calls _ _ _).mono ?_
  rintro e w2 ⟨rfl, g2⟩
  replace f10 := g2.cell f10
  replace f11 := g2.cell f11
  replace f20 := g2.cell f20
  replace f21 := g2.cell f21
  replace f30 := g2.cell f30
  replace f31 := g2.cell f31
  replace z20 := g2.froz (by omega) z20
  replace z21 := g2.froz (by omega) z21
  replace s1 := Nat.lt_of_lt_of_le s1 g2.size
  replace HG := HG.trans g2
  clear g2
  clear s1
  go_wp2
  all_goals have k1 := rightB_t hr
  all_goals have k2 := rightB_t hr2
  all_goals refine bodyPost_ret (v := _) (by simp [results, Tryd.results20, go_sem, *]; rfl) rfl ⟨?_, by repeat (first | exact HG | refine Gr.drew ?_ | refine Gr.set_ ?_ (by simp <;> omega) _)⟩
  all_goals simp only [Ending.returned.injEq, Value.tuple.injEq, Value.agg.injEq, Value.bool.injEq, Value.int.injEq, Array.mk.injEq, List.cons.injEq, and_true, true_and, meetF, meetT, meetB]
  all_goals (first | rfl | omega | (simp; done) | (simp; omega) | (refine ⟨?_, ?_⟩ <;> first | rfl | omega | (simp; omega)))
theorem rmeet_01f (a b c d : Int) (w : World) (p1 : ¬ a < c) (p2 : d < b) (hr : rightB a b = false) : Calls Tryd.prog 20 #[.agg #[.int .i64 a, .int .i64 b], .agg #[.int .i64 c, .int .i64 d]] w fun e w' => e = .returned (.tuple #[.agg #[.int .i64 (meetF a b c d), .int .i64 (meetT a b c d)], .bool (meetB a b c d)]) ∧ Gr w w' := by
  go_enter Tryd.func20, Tryd.ntmps20
  go_wp2_with fail
  refine (rright_calls _ _ _).mono ?_
  rintro e w1 ⟨rfl, g1⟩
  have f10 := g1.cell (b := w.heap.size + 1) (i := 0) (v := .int .i64 c) (by first | assumption | simp [go_sem, *])
  have f11 := g1.cell (b := w.heap.size + 1) (i := 1) (v := .int .i64 d) (by first | assumption | simp [go_sem, *])
  have f20 := g1.cell (b := w.heap.size + 1 + 1) (i := 0) (v := .int .i64 0) (by first | assumption | simp [go_sem, *])
  have f21 := g1.cell (b := w.heap.size + 1 + 1) (i := 1) (v := .int .i64 0) (by first | assumption | simp [go_sem, *])
  have f30 := g1.cell (b := w.heap.size + 1 + 1 + 1) (i := 0) (v := .int .i64 a) (by first | assumption | simp [go_sem, *])
  have f31 := g1.cell (b := w.heap.size + 1 + 1 + 1) (i := 1) (v := .int .i64 d) (by first | assumption | simp [go_sem, *])
  have z20 := g1.froz (b := w.heap.size + 1 + 1) (i := 0) (by simp <;> omega) (by simp [go_sem])
  have z21 := g1.froz (b := w.heap.size + 1 + 1) (i := 1) (by simp <;> omega) (by simp [go_sem])
  have s1 : w.heap.size + 1 + 1 + 1 < w1.heap.size := by have := g1.size; simp at this; omega
  have HG : Gr w w1 := (((((Gr.refl w).alloc _).alloc _).alloc _).alloc _).trans g1
  clear g1
  clear s1
  go_wp2
  all_goals have k1 := rightB_f hr
  all_goals refine bodyPost_ret (v := _) (by simp [results, Tryd.results20, go_sem, *]; rfl) rfl ⟨?_, by repeat (first | exact HG | refine Gr.drew ?_ | refine Gr.set_ ?_ (by simp <;> omega) _)⟩
  all_goals simp only [Ending.returned.injEq, Value.tuple.injEq, Value.agg.injEq, Value.bool.injEq, Value.int.injEq, Array.mk.injEq, List.cons.injEq, and_true, true_and, meetF, meetT, meetB]
  all_goals (first | rfl | omega | (simp; done) | (simp; omega) | (refine ⟨?_, ?_⟩ <;> first | rfl | omega | (simp; omega)))
theorem rmeet_01tf (a b c d : Int) (w : World) (p1 : ¬ a < c) (p2 : d < b) (hr : rightB a b = true) (hr2 : rightB c d = false) : Calls Tryd.prog 20 #[.agg #[.int .i64 a, .int .i64 b], .agg #[.int .i64 c, .int .i64 d]] w fun e w' => e = .returned (.tuple #[.agg #[.int .i64 (meetF a b c d), .int .i64 (meetT a b c d)], .bool (meetB a b c d)]) ∧ Gr w w' := by
  go_enter Tryd.func20, Tryd.ntmps20
  go_wp2_with fail
  refine (rright_calls _ _ _).mono ?_
  rintro e w1 ⟨rfl, g1⟩
  have f10 := g1.cell (b := w.heap.size + 1) (i := 0) (v := .int .i64 c) (by first | assumption | simp [go_sem, *])
  have f11 := g1.cell (b := w.heap.size + 1) (i := 1) (v := .int .i64 d) (by first | assumption | simp [go_sem, *])
  have f20 := g1.cell (b := w.heap.size + 1 + 1) (i := 0) (v := .int .i64 0) (by first | assumption | simp [go_sem, *])
  have f21 := g1.cell (b := w.heap.size + 1 + 1) (i := 1) (v := .int .i64 0) (by first | assumption | simp [go_sem, *])
  have f30 := g1.cell (b := w.heap.size + 1 + 1 + 1) (i := 0) (v := .int .i64 a) (by first | assumption | simp [go_sem, *])
  have f31 := g1.cell (b := w.heap.size + 1 + 1 + 1) (i := 1) (v := .int .i64 d) (by first | assumption | simp [go_sem, *])
  have z20 := g1.froz (b := w.heap.size + 1 + 1) (i := 0) (by simp <;> omega) (by simp [go_sem])
  have z21 := g1.froz (b := w.heap.size + 1 + 1) (i := 1) (by simp <;> omega) (by simp [go_sem])
  have s1 : w.heap.size + 1 + 1 + 1 < w1.heap.size := by have := g1.size; simp at this; omega
  have HG : Gr w w1 := (((((Gr.refl w).alloc _).alloc _).alloc _).alloc _).trans g1
  clear g1
  go_wp2_with fail
  refine (rright_calls _ _ _).mono ?_
  rintro e w2 ⟨rfl, g2⟩
  replace f10 := g2.cell f10
  replace f11 := g2.cell f11
  replace f20 := g2.cell f20
  replace f21 := g2.cell f21
  replace f30 := g2.cell f30
  replace f31 := g2.cell f31
  replace z20 := g2.froz (by omega) z20
  replace z21 := g2.froz (by omega) z21
  replace s1 := Nat.lt_of_lt_of_le s1 g2.size
  replace HG := HG.trans g2
  clear g2
  clear s1
  go_wp2
  all_goals have k1 := rightB_t hr
  all_goals have k2 := rightB_f hr2
  all_goals refine bodyPost_ret (v := _) (by simp [results, Tryd.results20, go_sem, *]; rfl) rfl ⟨?_, by repeat (first | exact HG | refine Gr.drew ?_ | refine Gr.set_ ?_ (by simp <;> omega) _)⟩
  all_goals simp only [Ending.returned.injEq, Value.tuple.injEq, Value.agg.injEq, Value.bool.injEq, Value.int.injEq, Array.mk.injEq, List.cons.injEq, and_true, true_and, meetF, meetT, meetB]
  all_goals (first | rfl | omega | (simp; done) | (simp; omega) | (refine ⟨?_, ?_⟩ <;> first | rfl | omega | (simp; omega)))
theorem rmeet_01tt (a b c d : Int) (w : World) (p1 : ¬ a < c) (p2 : d < b) (hr : rightB a b = true) (hr2 : rightB c d = true) : Calls Tryd.prog 20 #[.agg #[.int .i64 a, .int .i64 b], .agg #[.int .i64 c, .int .i64 d]] w fun e w' => e = .returned (.tuple #[.agg #[.int .i64 (meetF a b c d), .int .i64 (meetT a b c d)], .bool (meetB a b c d)]) ∧ Gr w w' := by
  go_enter Tryd.func20, Tryd.ntmps20
  go_wp2_with fail
  refine (rright_calls _ _ _).mono ?_
  rintro e w1 ⟨rfl, g1⟩
  have f10 := g1.cell (b := w.heap.size + 1) (i := 0) (v := .int .i64 c) (by first | assumption | simp [go_sem, *])
  have f11 := g1.cell (b := w.heap.size + 1) (i := 1) (v := .int .i64 d) (by first | assumption | simp [go_sem, *])
  have f20 := g1.cell (b := w.heap.size + 1 + 1) (i := 0) (v := .int .i64 0) (by first | assumption | simp [go_sem, *])
  have f21 := g1.cell (b := w.heap.size + 1 + 1) (i := 1) (v := .int .i64 0) (by first | assumption | simp [go_sem, *])
  have f30 := g1.cell (b := w.heap.size + 1 + 1 + 1) (i := 0) (v := .int .i64 a) (by first | assumption | simp [go_sem, *])
  have f31 := g1.cell (b := w.heap.size + 1 + 1 + 1) (i := 1) (v := .int .i64 d) (by first | assumption | simp [go_sem, *])
  have z20 := g1.froz (b := w.heap.size + 1 + 1) (i := 0) (by simp <;> omega) (by simp [go_sem])
  have z21 := g1.froz (b := w.heap.size + 1 + 1) (i := 1) (by simp <;> omega) (by simp [go_sem])
  have s1 : w.heap.size + 1 + 1 + 1 < w1.heap.size := by have := g1.size; simp at this; omega
  have HG : Gr w w1 := (((((Gr.refl w).alloc _).alloc _).alloc _).alloc _).trans g1
  clear g1
  go_wp2_with fail
  refine (rright_calls _ _ _).mono ?_
  rintro e w2 ⟨rfl, g2⟩
  replace f10 := g2.cell f10
  replace f11 := g2.cell f11
  replace f20 := g2.cell f20
  replace f21 := g2.cell f21
  replace f30 := g2.cell f30
  replace f31 := g2.cell f31
  replace z20 := g2.froz (by omega) z20
  replace z21 := g2.froz (by omega) z21
  replace s1 := Nat.lt_of_lt_of_le s1 g2.size
  replace HG := HG.trans g2
  clear g2
  clear s1
  go_wp2
  all_goals have k1 := rightB_t hr
  all_goals have k2 := rightB_t hr2
  all_goals refine bodyPost_ret (v := _) (by simp [results, Tryd.results20, go_sem, *]; rfl) rfl ⟨?_, by repeat (first | exact HG | refine Gr.drew ?_ | refine Gr.set_ ?_ (by simp <;> omega) _)⟩
  all_goals simp only [Ending.returned.injEq, Value.tuple.injEq, Value.agg.injEq, Value.bool.injEq, Value.int.injEq, Array.mk.injEq, List.cons.injEq, and_true, true_and, meetF, meetT, meetB]
  all_goals (first | rfl | omega | (simp; done) | (simp; omega) | (refine ⟨?_, ?_⟩ <;> first | rfl | omega | (simp; omega)))
theorem rmeet_00f (a b c d : Int) (w : World) (p1 : ¬ a < c) (p2 : ¬ d < b) (hr : rightB a b = false) : Calls Tryd.prog 20 #[.agg #[.int .i64 a, .int .i64 b], .agg #[.int .i64 c, .int .i64 d]] w fun e w' => e = .returned (.tuple #[.agg #[.int .i64 (meetF a b c d), .int .i64 (meetT a b c d)], .bool (meetB a b c d)]) ∧ Gr w w' := by
  go_enter Tryd.func20, Tryd.ntmps20
  go_wp2_with fail
  refine (rright_calls _ _ _).mono ?_
  rintro e w1 ⟨rfl, g1⟩
  have f10 := g1.cell (b := w.heap.size + 1) (i := 0) (v := .int .i64 c) (by first | assumption | simp [go_sem, *])
  have f11 := g1.cell (b := w.heap.size + 1) (i := 1) (v := .int .i64 d) (by first | assumption | simp [go_sem, *])
  have f20 := g1.cell (b := w.heap.size + 1 + 1) (i := 0) (v := .int .i64 0) (by first | assumption | simp [go_sem, *])
  have f21 := g1.cell (b := w.heap.size + 1 + 1) (i := 1) (v := .int .i64 0) (by first | assumption | simp [go_sem, *])
  have f30 := g1.cell (b := w.heap.size + 1 + 1 + 1) (i := 0) (v := .int .i64 a) (by first | assumption | simp [go_sem, *])
  have f31 := g1.cell (b := w.heap.size + 1 + 1 + 1) (i := 1) (v := .int .i64 b) (by first | assumption | simp [go_sem, *])
  have z20 := g1.froz (b := w.heap.size + 1 + 1) (i := 0) (by simp <;> omega) (by simp [go_sem])
  have z21 := g1.froz (b := w.heap.size + 1 + 1) (i := 1) (by simp <;> omega) (by simp [go_sem])
  have s1 : w.heap.size + 1 + 1 + 1 < w1.heap.size := by have := g1.size; simp at this; omega
  have HG : Gr w w1 := (((((Gr.refl w).alloc _).alloc _).alloc _).alloc _).trans g1
  clear g1
  clear s1
  go_wp2
  all_goals have k1 := rightB_f hr
  all_goals refine bodyPost_ret (v := _) (by simp [results, Tryd.results20, go_sem, *]; rfl) rfl ⟨?_, by repeat (first | exact HG | refine Gr.drew ?_ | refine Gr.set_ ?_ (by simp <;> omega) _)⟩
  all_goals simp only [Ending.returned.injEq, Value.tuple.injEq, Value.agg.injEq, Value.bool.injEq, Value.int.injEq, Array.mk.injEq, List.cons.injEq, and_true, true_and, meetF, meetT, meetB]
  all_goals (first | rfl | omega | (simp; done) | (simp; omega) | (refine ⟨?_, ?_⟩ <;> first | rfl | omega | (simp; omega)))
theorem rmeet_00tf (a b c d : Int) (w : World) (p1 : ¬ a < c) (p2 : ¬ d < b) (hr : rightB a b = true) (hr2 : rightB c d = false) : Calls Tryd.prog 20 #[.agg #[.int .i64 a, .int .i64 b], .agg #[.int .i64 c, .int .i64 d]] w fun e w' => e = .returned (.tuple #[.agg #[.int .i64 (meetF a b c d), .int .i64 (meetT a b c d)], .bool (meetB a b c d)]) ∧ Gr w w' := by
  go_enter Tryd.func20, Tryd.ntmps20
  go_wp2_with fail
  refine (rright_calls _ _ _).mono ?_
  rintro e w1 ⟨rfl, g1⟩
  have f10 := g1.cell (b := w.heap.size + 1) (i := 0) (v := .int .i64 c) (by first | assumption | simp [go_sem, *])
  have f11 := g1.cell (b := w.heap.size + 1) (i := 1) (v := .int .i64 d) (by first | assumption | simp [go_sem, *])
  have f20 := g1.cell (b := w.heap.size + 1 + 1) (i := 0) (v := .int .i64 0) (by first | assumption | simp [go_sem, *])
  have f21 := g1.cell (b := w.heap.size + 1 + 1) (i := 1) (v := .int .i64 0) (by first | assumption | simp [go_sem, *])
  have f30 := g1.cell (b := w.heap.size + 1 + 1 + 1) (i := 0) (v := .int .i64 a) (by first | assumption | simp [go_sem, *])
  have f31 := g1.cell (b := w.heap.size + 1 + 1 + 1) (i := 1) (v := .int .i64 b) (by first | assumption | simp [go_sem, *])
  have z20 := g1.froz (b := w.heap.size + 1 + 1) (i := 0) (by simp <;> omega) (by simp [go_sem])
  have z21 := g1.froz (b := w.heap.size + 1 + 1) (i := 1) (by simp <;> omega) (by simp [go_sem])
  have s1 : w.heap.size + 1 + 1 + 1 < w1.heap.size := by have := g1.size; simp at this; omega
  have HG : Gr w w1 := (((((Gr.refl w).alloc _).alloc _).alloc _).alloc _).trans g1
  clear g1
  go_wp2_with fail
  refine (rright_calls _ _ _).mono ?_
  rintro e w2 ⟨rfl, g2⟩
  replace f10 := g2.cell f10
  replace f11 := g2.cell f11
  replace f20 := g2.cell f20
  replace f21 := g2.cell f21
  replace f30 := g2.cell f30
  replace f31 := g2.cell f31
  replace z20 := g2.froz (by omega) z20
  replace z21 := g2.froz (by omega) z21
  replace s1 := Nat.lt_of_lt_of_le s1 g2.size
  replace HG := HG.trans g2
  clear g2
  clear s1
  go_wp2
  all_goals have k1 := rightB_t hr
  all_goals have k2 := rightB_f hr2
  all_goals refine bodyPost_ret (v := _) (by simp [results, Tryd.results20, go_sem, *]; rfl) rfl ⟨?_, by repeat (first | exact HG | refine Gr.drew ?_ | refine Gr.set_ ?_ (by simp <;> omega) _)⟩
  all_goals simp only [Ending.returned.injEq, Value.tuple.injEq, Value.agg.injEq, Value.bool.injEq, Value.int.injEq, Array.mk.injEq, List.cons.injEq, and_true, true_and, meetF, meetT, meetB]
  all_goals (first | rfl | omega | (simp; done) | (simp; omega) | (refine ⟨?_, ?_⟩ <;> first | rfl | omega | (simp; omega)))
theorem rmeet_00tt (a b c d : Int) (w : World) (p1 : ¬ a < c) (p2 : ¬ d < b) (hr : rightB a b = true) (hr2 : rightB c d = true) : Calls Tryd.prog 20 #[.agg #[.int .i64 a, .int .i64 b], .agg #[.int .i64 c, .int .i64 d]] w fun e w' => e = .returned (.tuple #[.agg #[.int .i64 (meetF a b c d), .int .i64 (meetT a b c d)], .bool (meetB a b c d)]) ∧ Gr w w' := by
  go_enter Tryd.func20, Tryd.ntmps20
  go_wp2_with fail
  refine (rright_calls _ _ _).mono ?_
  rintro e w1 ⟨rfl, g1⟩
  have f10 := g1.cell (b := w.heap.size + 1) (i := 0) (v := .int .i64 c) (by first | assumption | simp [go_sem, *])
  have f11 := g1.cell (b := w.heap.size + 1) (i := 1) (v := .int .i64 d) (by first | assumption | simp [go_sem, *])
  have f20 := g1.cell (b := w.heap.size + 1 + 1) (i := 0) (v := .int .i64 0) (by first | assumption | simp [go_sem, *])
  have f21 := g1.cell (b := w.heap.size + 1 + 1) (i := 1) (v := .int .i64 0) (by first | assumption | simp [go_sem, *])
  have f30 := g1.cell (b := w.heap.size + 1 + 1 + 1) (i := 0) (v := .int .i64 a) (by first | assumption | simp [go_sem, *])
  have f31 := g1.cell (b := w.heap.size + 1 + 1 + 1) (i := 1) (v := .int .i64 b) (by first | assumption | simp [go_sem, *])
  have z20 := g1.froz (b := w.heap.size + 1 + 1) (i := 0) (by simp <;> omega) (by simp [go_sem])
  have z21 := g1.froz (b := w.heap.size + 1 + 1) (i := 1) (by simp <;> omega) (by simp [go_sem])
  have s1 : w.heap.size + 1 + 1 + 1 < w1.heap.size := by have := g1.size; simp at this; omega
  have HG : Gr w w1 := (((((Gr.refl w).alloc _).alloc _).alloc _).alloc _).trans g1
  clear g1
  go_wp2_with fail
  refine (rright_calls _ _ _).mono ?_
  rintro e w2 ⟨rfl, g2⟩
  replace f10 := g2.cell f10
  replace f11 := g2.cell f11
  replace f20 := g2.cell f20
  replace f21 := g2.cell f21
  replace f30 := g2.cell f30
  replace f31 := g2.cell f31
  replace z20 := g2.froz (by omega) z20
  replace z21 := g2.froz (by omega) z21
  replace s1 := Nat.lt_of_lt_of_le s1 g2.size
  replace HG := HG.trans g2
  clear g2
  clear s1
  go_wp2
  all_goals have k1 := rightB_t hr
  all_goals have k2 := rightB_t hr2
  all_goals refine bodyPost_ret (v := _) (by simp [results, Tryd.results20, go_sem, *]; rfl) rfl ⟨?_, by repeat (first | exact HG | refine Gr.drew ?_ | refine Gr.set_ ?_ (by simp <;> omega) _)⟩
  all_goals simp only [Ending.returned.injEq, Value.tuple.injEq, Value.agg.injEq, Value.bool.injEq, Value.int.injEq, Array.mk.injEq, List.cons.injEq, and_true, true_and, meetF, meetT, meetB]
  all_goals (first | rfl | omega | (simp; done) | (simp; omega) | (refine ⟨?_, ?_⟩ <;> first | rfl | omega | (simp; omega)))
theorem rmeet_calls (a b c d : Int) (w : World) : Calls Tryd.prog 20 #[.agg #[.int .i64 a, .int .i64 b], .agg #[.int .i64 c, .int .i64 d]] w fun e w' => e = .returned (.tuple #[.agg #[.int .i64 (meetF a b c d), .int .i64 (meetT a b c d)], .bool (meetB a b c d)]) ∧ Gr w w' := by
  by_cases p1 : a < c <;> by_cases p2 : d < b <;> cases hr : rightB a b <;> cases hr2 : rightB c d
  · exact rmeet_11f a b c d w p1 p2 hr
  · exact rmeet_11f a b c d w p1 p2 hr
  · exact rmeet_11tf a b c d w p1 p2 hr hr2
  · exact rmeet_11tt a b c d w p1 p2 hr hr2
  · exact rmeet_10f a b c d w p1 p2 hr
  · exact rmeet_10f a b c d w p1 p2 hr
  · exact rmeet_10tf a b c d w p1 p2 hr hr2
  · exact rmeet_10tt a b c d w p1 p2 hr hr2
  · exact rmeet_01f a b c d w p1 p2 hr
  · exact rmeet_01f a b c d w p1 p2 hr
  · exact rmeet_01tf a b c d w p1 p2 hr hr2
  · exact rmeet_01tt a b c d w p1 p2 hr hr2
  · exact rmeet_00f a b c d w p1 p2 hr
  · exact rmeet_00f a b c d w p1 p2 hr
  · exact rmeet_00tf a b c d w p1 p2 hr hr2
  · exact rmeet_00tt a b c d w p1 p2 hr hr2
end Go.Proofs.YtpcedmiehoimbaaDoor
