/-
  Both Aligns.
-/
import Derived.Test.YtpcedmiehoimbaaDoorSpanWalkB
import Derived.Test.YtpcedmiehoimbaaDoorSpanWalkA
namespace Go.Proofs.YtpcedmiehoimbaaDoor
open Go.RowKit SpanP
def RetAli (a b u : Int) (w : World) (e : Ending) (w' : World) : Prop := e = .returned (.tuple #[.agg #[.int .i64 (aliF a b u), .int .i64 (aliT a b u)], .int .i64 (aliE a b u)]) ∧ Gr w w'
theorem retAli_no {a b u : Int} (h : ¬ aliB a b u) {w w' : World} (g : Gr w w') : RetAli a b u w (.returned (.tuple #[.agg #[.int .i64 0, .int .i64 0], .int .i64 1])) w' := by
  refine ⟨?_, g⟩
  simp [aliF, aliT, aliE, h]
theorem retAli_yes {a b u x y : Int} (h : aliB a b u) (hx : x = a - a % u) (hy : y = if b % u = 0 then b else min (b - b % u + u) 4611686018427387904) {w w' : World} (g : Gr w w') : RetAli a b u w (.returned (.tuple #[.agg #[.int .i64 x, .int .i64 y], .int .i64 0])) w' := by
  refine ⟨?_, g⟩
  simp [aliF, aliT, aliE, h, hx, hy]
theorem sali_no1 (a b u : Int) (w : World) (hr : rightB a b = false) : Calls Tryd.prog 28 #[.agg #[.int .i64 a, .int .i64 b], .int .i64 u] w (RetAli a b u w) := by
  have hn : Hid (¬ aliB a b u) := by show ¬ aliB a b u; unfold aliB; have := of_decide_eq_false hr; omega
  have ga : Gr w (w.alloc (.cells #[.int .i64 a, .int .i64 b] 23)) := (Gr.refl w).alloc _
  have g0 : Gr w ((w.alloc (.cells #[.int .i64 a, .int .i64 b] 23)).alloc (.cells #[.int .i64 0, .int .i64 0] 23)) := ga.alloc _
  have Ba := Blk.new w 23 #[.int .i64 a, .int .i64 b]
  have B0 : Blk ((w.alloc (.cells #[.int .i64 a, .int .i64 b] 23)).alloc (.cells #[.int .i64 0, .int .i64 0] 23)) w.heap.size 23 #[.int .i64 a, .int .i64 b] := Ba.alloc _
  have R0 : Blk ((w.alloc (.cells #[.int .i64 a, .int .i64 b] 23)).alloc (.cells #[.int .i64 0, .int .i64 0] 23)) (w.heap.size + 1) 23 #[.int .i64 0, .int .i64 0] := by have h := Blk.new (w.alloc (.cells #[.int .i64 a, .int .i64 b] 23)) 23 #[.int .i64 0, .int .i64 0]; simpa using h
  have hn1 : ¬ w.heap.size + 1 = w.heap.size := by omega
  have hn2 : ¬ w.heap.size = w.heap.size + 1 := by omega
  go_enter Tryd.func28, Tryd.ntmps28
  go_wp2_with (go_at_call 13; refine (sright_calls _ _ _).mono ?_; rintro e w1 ⟨rfl, g1⟩; have G1 := g0.trans g1; have S1 := B0.below g1 B0.lt; have R1 := R0.below g1 R0.lt; have cs0 := S1.at_ (i := 0) (v := .int .i64 a) rfl; have fs0 := S1.frozen 0; have cs1 := S1.at_ (i := 1) (v := .int .i64 b) rfl; have fs1 := S1.frozen 1; have cr0 := R1.at_ (i := 0) (v := .int .i64 0) rfl; have fr0 := R1.frozen 0; have cr1 := R1.at_ (i := 1) (v := .int .i64 0) rfl; have fr1 := R1.frozen 1; have hz : w.heap.size + 1 < w1.heap.size := R1.lt; have hz1 : ¬ w.heap.size + 1 = w1.heap.size := (by omega); have hz2 : ¬ w1.heap.size = w.heap.size + 1 := (by omega); have hz3 : ¬ w.heap.size = w1.heap.size := (by omega); have hz4 : ¬ w1.heap.size = w.heap.size := (by omega))
  all_goals refine bodyPost_ret (v := _) (by simp [results, Tryd.results28, go_sem, *]; rfl) rfl ?_
  all_goals exact retAli_no hn.out (by repeat (first | exact G1 | refine Gr.set_ ?_ (by simp <;> omega) _))
theorem sali_no2 (a b u : Int) (w : World) (hr : rightB a b = true) (hu : u < 1) : Calls Tryd.prog 28 #[.agg #[.int .i64 a, .int .i64 b], .int .i64 u] w (RetAli a b u w) := by
  have hn : Hid (¬ aliB a b u) := by show ¬ aliB a b u; unfold aliB; omega
  have ga : Gr w (w.alloc (.cells #[.int .i64 a, .int .i64 b] 23)) := (Gr.refl w).alloc _
  have g0 : Gr w ((w.alloc (.cells #[.int .i64 a, .int .i64 b] 23)).alloc (.cells #[.int .i64 0, .int .i64 0] 23)) := ga.alloc _
  have Ba := Blk.new w 23 #[.int .i64 a, .int .i64 b]
  have B0 : Blk ((w.alloc (.cells #[.int .i64 a, .int .i64 b] 23)).alloc (.cells #[.int .i64 0, .int .i64 0] 23)) w.heap.size 23 #[.int .i64 a, .int .i64 b] := Ba.alloc _
  have R0 : Blk ((w.alloc (.cells #[.int .i64 a, .int .i64 b] 23)).alloc (.cells #[.int .i64 0, .int .i64 0] 23)) (w.heap.size + 1) 23 #[.int .i64 0, .int .i64 0] := by have h := Blk.new (w.alloc (.cells #[.int .i64 a, .int .i64 b] 23)) 23 #[.int .i64 0, .int .i64 0]; simpa using h
  have hn1 : ¬ w.heap.size + 1 = w.heap.size := by omega
  have hn2 : ¬ w.heap.size = w.heap.size + 1 := by omega
  go_enter Tryd.func28, Tryd.ntmps28
  go_wp2_with (go_at_call 13; refine (sright_calls _ _ _).mono ?_; rintro e w1 ⟨rfl, g1⟩; have G1 := g0.trans g1; have S1 := B0.below g1 B0.lt; have R1 := R0.below g1 R0.lt; have cs0 := S1.at_ (i := 0) (v := .int .i64 a) rfl; have fs0 := S1.frozen 0; have cs1 := S1.at_ (i := 1) (v := .int .i64 b) rfl; have fs1 := S1.frozen 1; have cr0 := R1.at_ (i := 0) (v := .int .i64 0) rfl; have fr0 := R1.frozen 0; have cr1 := R1.at_ (i := 1) (v := .int .i64 0) rfl; have fr1 := R1.frozen 1; have hz : w.heap.size + 1 < w1.heap.size := R1.lt; have hz1 : ¬ w.heap.size + 1 = w1.heap.size := (by omega); have hz2 : ¬ w1.heap.size = w.heap.size + 1 := (by omega); have hz3 : ¬ w.heap.size = w1.heap.size := (by omega); have hz4 : ¬ w1.heap.size = w.heap.size := (by omega))
  all_goals refine bodyPost_ret (v := _) (by simp [results, Tryd.results28, go_sem, *]; rfl) rfl ?_
  all_goals exact retAli_no hn.out (by repeat (first | exact G1 | refine Gr.set_ ?_ (by simp <;> omega) _))
theorem sali_no3 (a b u : Int) (w : World) (hr : rightB a b = true) (hu : ¬ u < 1) (hv : 1099511627776 < u) : Calls Tryd.prog 28 #[.agg #[.int .i64 a, .int .i64 b], .int .i64 u] w (RetAli a b u w) := by
  have hn : Hid (¬ aliB a b u) := by show ¬ aliB a b u; unfold aliB; omega
  have ga : Gr w (w.alloc (.cells #[.int .i64 a, .int .i64 b] 23)) := (Gr.refl w).alloc _
  have g0 : Gr w ((w.alloc (.cells #[.int .i64 a, .int .i64 b] 23)).alloc (.cells #[.int .i64 0, .int .i64 0] 23)) := ga.alloc _
  have Ba := Blk.new w 23 #[.int .i64 a, .int .i64 b]
  have B0 : Blk ((w.alloc (.cells #[.int .i64 a, .int .i64 b] 23)).alloc (.cells #[.int .i64 0, .int .i64 0] 23)) w.heap.size 23 #[.int .i64 a, .int .i64 b] := Ba.alloc _
  have R0 : Blk ((w.alloc (.cells #[.int .i64 a, .int .i64 b] 23)).alloc (.cells #[.int .i64 0, .int .i64 0] 23)) (w.heap.size + 1) 23 #[.int .i64 0, .int .i64 0] := by have h := Blk.new (w.alloc (.cells #[.int .i64 a, .int .i64 b] 23)) 23 #[.int .i64 0, .int .i64 0]; simpa using h
  have hn1 : ¬ w.heap.size + 1 = w.heap.size := by omega
  have hn2 : ¬ w.heap.size = w.heap.size + 1 := by omega
  go_enter Tryd.func28, Tryd.ntmps28
  go_wp2_with (go_at_call 13; refine (sright_calls _ _ _).mono ?_; rintro e w1 ⟨rfl, g1⟩; have G1 := g0.trans g1; have S1 := B0.below g1 B0.lt; have R1 := R0.below g1 R0.lt; have cs0 := S1.at_ (i := 0) (v := .int .i64 a) rfl; have fs0 := S1.frozen 0; have cs1 := S1.at_ (i := 1) (v := .int .i64 b) rfl; have fs1 := S1.frozen 1; have cr0 := R1.at_ (i := 0) (v := .int .i64 0) rfl; have fr0 := R1.frozen 0; have cr1 := R1.at_ (i := 1) (v := .int .i64 0) rfl; have fr1 := R1.frozen 1; have hz : w.heap.size + 1 < w1.heap.size := R1.lt; have hz1 : ¬ w.heap.size + 1 = w1.heap.size := (by omega); have hz2 : ¬ w1.heap.size = w.heap.size + 1 := (by omega); have hz3 : ¬ w.heap.size = w1.heap.size := (by omega); have hz4 : ¬ w1.heap.size = w.heap.size := (by omega))
  all_goals refine bodyPost_ret (v := _) (by simp [results, Tryd.results28, go_sem, *]; rfl) rfl ?_
  all_goals exact retAli_no hn.out (by repeat (first | exact G1 | refine Gr.set_ ?_ (by simp <;> omega) _))
theorem rali_no1 (a b u : Int) (w : World) (hr : rightB a b = false) : Calls Tryd.prog 29 #[.agg #[.int .i64 a, .int .i64 b], .int .i64 u] w (RetAli a b u w) := by
  have hn : Hid (¬ aliB a b u) := by show ¬ aliB a b u; unfold aliB; have := of_decide_eq_false hr; omega
  have ga : Gr w (w.alloc (.cells #[.int .i64 a, .int .i64 b] 23)) := (Gr.refl w).alloc _
  have g0 : Gr w ((w.alloc (.cells #[.int .i64 a, .int .i64 b] 23)).alloc (.cells #[.int .i64 0, .int .i64 0] 23)) := ga.alloc _
  have Ba := Blk.new w 23 #[.int .i64 a, .int .i64 b]
  have B0 : Blk ((w.alloc (.cells #[.int .i64 a, .int .i64 b] 23)).alloc (.cells #[.int .i64 0, .int .i64 0] 23)) w.heap.size 23 #[.int .i64 a, .int .i64 b] := Ba.alloc _
  have R0 : Blk ((w.alloc (.cells #[.int .i64 a, .int .i64 b] 23)).alloc (.cells #[.int .i64 0, .int .i64 0] 23)) (w.heap.size + 1) 23 #[.int .i64 0, .int .i64 0] := by have h := Blk.new (w.alloc (.cells #[.int .i64 a, .int .i64 b] 23)) 23 #[.int .i64 0, .int .i64 0]; simpa using h
  have hn1 : ¬ w.heap.size + 1 = w.heap.size := by omega
  have hn2 : ¬ w.heap.size = w.heap.size + 1 := by omega
  go_enter Tryd.func29, Tryd.ntmps29
  go_wp2_with (go_at_call 14; refine (rright_calls _ _ _).mono ?_; rintro e w1 ⟨rfl, g1⟩; have G1 := g0.trans g1; have S1 := B0.below g1 B0.lt; have R1 := R0.below g1 R0.lt; have cs0 := S1.at_ (i := 0) (v := .int .i64 a) rfl; have fs0 := S1.frozen 0; have cs1 := S1.at_ (i := 1) (v := .int .i64 b) rfl; have fs1 := S1.frozen 1; have cr0 := R1.at_ (i := 0) (v := .int .i64 0) rfl; have fr0 := R1.frozen 0; have cr1 := R1.at_ (i := 1) (v := .int .i64 0) rfl; have fr1 := R1.frozen 1; have hz : w.heap.size + 1 < w1.heap.size := R1.lt; have hz1 : ¬ w.heap.size + 1 = w1.heap.size := (by omega); have hz2 : ¬ w1.heap.size = w.heap.size + 1 := (by omega); have hz3 : ¬ w.heap.size = w1.heap.size := (by omega); have hz4 : ¬ w1.heap.size = w.heap.size := (by omega))
  all_goals refine bodyPost_ret (v := _) (by simp [results, Tryd.results29, go_sem, *]; rfl) rfl ?_
  all_goals exact retAli_no hn.out (by repeat (first | exact G1 | refine Gr.set_ ?_ (by simp <;> omega) _))
theorem rali_no2 (a b u : Int) (w : World) (hr : rightB a b = true) (hu : u < 1) : Calls Tryd.prog 29 #[.agg #[.int .i64 a, .int .i64 b], .int .i64 u] w (RetAli a b u w) := by
  have hn : Hid (¬ aliB a b u) := by show ¬ aliB a b u; unfold aliB; omega
  have ga : Gr w (w.alloc (.cells #[.int .i64 a, .int .i64 b] 23)) := (Gr.refl w).alloc _
  have g0 : Gr w ((w.alloc (.cells #[.int .i64 a, .int .i64 b] 23)).alloc (.cells #[.int .i64 0, .int .i64 0] 23)) := ga.alloc _
  have Ba := Blk.new w 23 #[.int .i64 a, .int .i64 b]
  have B0 : Blk ((w.alloc (.cells #[.int .i64 a, .int .i64 b] 23)).alloc (.cells #[.int .i64 0, .int .i64 0] 23)) w.heap.size 23 #[.int .i64 a, .int .i64 b] := Ba.alloc _
  have R0 : Blk ((w.alloc (.cells #[.int .i64 a, .int .i64 b] 23)).alloc (.cells #[.int .i64 0, .int .i64 0] 23)) (w.heap.size + 1) 23 #[.int .i64 0, .int .i64 0] := by have h := Blk.new (w.alloc (.cells #[.int .i64 a, .int .i64 b] 23)) 23 #[.int .i64 0, .int .i64 0]; simpa using h
  have hn1 : ¬ w.heap.size + 1 = w.heap.size := by omega
  have hn2 : ¬ w.heap.size = w.heap.size + 1 := by omega
  go_enter Tryd.func29, Tryd.ntmps29
  go_wp2_with (go_at_call 14; refine (rright_calls _ _ _).mono ?_; rintro e w1 ⟨rfl, g1⟩; have G1 := g0.trans g1; have S1 := B0.below g1 B0.lt; have R1 := R0.below g1 R0.lt; have cs0 := S1.at_ (i := 0) (v := .int .i64 a) rfl; have fs0 := S1.frozen 0; have cs1 := S1.at_ (i := 1) (v := .int .i64 b) rfl; have fs1 := S1.frozen 1; have cr0 := R1.at_ (i := 0) (v := .int .i64 0) rfl; have fr0 := R1.frozen 0; have cr1 := R1.at_ (i := 1) (v := .int .i64 0) rfl; have fr1 := R1.frozen 1; have hz : w.heap.size + 1 < w1.heap.size := R1.lt; have hz1 : ¬ w.heap.size + 1 = w1.heap.size := (by omega); have hz2 : ¬ w1.heap.size = w.heap.size + 1 := (by omega); have hz3 : ¬ w.heap.size = w1.heap.size := (by omega); have hz4 : ¬ w1.heap.size = w.heap.size := (by omega))
  all_goals refine bodyPost_ret (v := _) (by simp [results, Tryd.results29, go_sem, *]; rfl) rfl ?_
  all_goals exact retAli_no hn.out (by repeat (first | exact G1 | refine Gr.set_ ?_ (by simp <;> omega) _))
theorem rali_no3 (a b u : Int) (w : World) (hr : rightB a b = true) (hu : ¬ u < 1) (hv : 1099511627776 < u) : Calls Tryd.prog 29 #[.agg #[.int .i64 a, .int .i64 b], .int .i64 u] w (RetAli a b u w) := by
  have hn : Hid (¬ aliB a b u) := by show ¬ aliB a b u; unfold aliB; omega
  have ga : Gr w (w.alloc (.cells #[.int .i64 a, .int .i64 b] 23)) := (Gr.refl w).alloc _
  have g0 : Gr w ((w.alloc (.cells #[.int .i64 a, .int .i64 b] 23)).alloc (.cells #[.int .i64 0, .int .i64 0] 23)) := ga.alloc _
  have Ba := Blk.new w 23 #[.int .i64 a, .int .i64 b]
  have B0 : Blk ((w.alloc (.cells #[.int .i64 a, .int .i64 b] 23)).alloc (.cells #[.int .i64 0, .int .i64 0] 23)) w.heap.size 23 #[.int .i64 a, .int .i64 b] := Ba.alloc _
  have R0 : Blk ((w.alloc (.cells #[.int .i64 a, .int .i64 b] 23)).alloc (.cells #[.int .i64 0, .int .i64 0] 23)) (w.heap.size + 1) 23 #[.int .i64 0, .int .i64 0] := by have h := Blk.new (w.alloc (.cells #[.int .i64 a, .int .i64 b] 23)) 23 #[.int .i64 0, .int .i64 0]; simpa using h
  have hn1 : ¬ w.heap.size + 1 = w.heap.size := by omega
  have hn2 : ¬ w.heap.size = w.heap.size + 1 := by omega
  go_enter Tryd.func29, Tryd.ntmps29
  go_wp2_with (go_at_call 14; refine (rright_calls _ _ _).mono ?_; rintro e w1 ⟨rfl, g1⟩; have G1 := g0.trans g1; have S1 := B0.below g1 B0.lt; have R1 := R0.below g1 R0.lt; have cs0 := S1.at_ (i := 0) (v := .int .i64 a) rfl; have fs0 := S1.frozen 0; have cs1 := S1.at_ (i := 1) (v := .int .i64 b) rfl; have fs1 := S1.frozen 1; have cr0 := R1.at_ (i := 0) (v := .int .i64 0) rfl; have fr0 := R1.frozen 0; have cr1 := R1.at_ (i := 1) (v := .int .i64 0) rfl; have fr1 := R1.frozen 1; have hz : w.heap.size + 1 < w1.heap.size := R1.lt; have hz1 : ¬ w.heap.size + 1 = w1.heap.size := (by omega); have hz2 : ¬ w1.heap.size = w.heap.size + 1 := (by omega); have hz3 : ¬ w.heap.size = w1.heap.size := (by omega); have hz4 : ¬ w1.heap.size = w.heap.size := (by omega))
  all_goals refine bodyPost_ret (v := _) (by simp [results, Tryd.results29, go_sem, *]; rfl) rfl ?_
  all_goals exact retAli_no hn.out (by repeat (first | exact G1 | refine Gr.set_ ?_ (by simp <;> omega) _))
theorem emod_le {a u : Int} (h : 0 ≤ a) (hu : 0 < u) : a % u ≤ a := by
  have h1 := Int.emod_add_mul_ediv a u
  have h2 := Int.mul_nonneg (Int.le_of_lt hu) (Int.ediv_nonneg h (Int.le_of_lt hu))
  omega
theorem div_up {b u : Int} : (b / u + 1) * u = b - b % u + u := by
  have h1 := Int.emod_add_mul_ediv b u
  rw [Int.add_mul, Int.mul_comm (b / u) u]
  omega
theorem div_down {b u : Int} : b / u * u = b - b % u := by
  have h1 := Int.emod_add_mul_ediv b u
  rw [Int.mul_comm (b / u) u]
  omega
set_option maxHeartbeats 1600000 in
theorem sali_yes (a b u : Int) (w : World) (hr : rightB a b = true) (hu : ¬ u < 1) (hv : ¬ 1099511627776 < u) : Calls Tryd.prog 28 #[.agg #[.int .i64 a, .int .i64 b], .int .i64 u] w (RetAli a b u w) := by
  obtain ⟨hb1, hb2, hb3⟩ := of_decide_eq_true hr
  have ga : Gr w (w.alloc (.cells #[.int .i64 a, .int .i64 b] 23)) := (Gr.refl w).alloc _
  have g0 : Gr w ((w.alloc (.cells #[.int .i64 a, .int .i64 b] 23)).alloc (.cells #[.int .i64 0, .int .i64 0] 23)) := ga.alloc _
  have Ba := Blk.new w 23 #[.int .i64 a, .int .i64 b]
  have B0 : Blk ((w.alloc (.cells #[.int .i64 a, .int .i64 b] 23)).alloc (.cells #[.int .i64 0, .int .i64 0] 23)) w.heap.size 23 #[.int .i64 a, .int .i64 b] := Ba.alloc _
  have R0 : Blk ((w.alloc (.cells #[.int .i64 a, .int .i64 b] 23)).alloc (.cells #[.int .i64 0, .int .i64 0] 23)) (w.heap.size + 1) 23 #[.int .i64 0, .int .i64 0] := by have h := Blk.new (w.alloc (.cells #[.int .i64 a, .int .i64 b] 23)) 23 #[.int .i64 0, .int .i64 0]; simpa using h
  have hn1 : ¬ w.heap.size + 1 = w.heap.size := by omega
  have hn2 : ¬ w.heap.size = w.heap.size + 1 := by omega
  go_enter Tryd.func28, Tryd.ntmps28
  go_wp2_with (go_at_call 13; refine (sright_calls _ _ _).mono ?_; rintro e w1 ⟨rfl, g1⟩; have G1 := g0.trans g1; have S1 := B0.below g1 B0.lt; have R1 := R0.below g1 R0.lt; have cs0 := S1.at_ (i := 0) (v := .int .i64 a) rfl; have fs0 := S1.frozen 0; have cs1 := S1.at_ (i := 1) (v := .int .i64 b) rfl; have fs1 := S1.frozen 1; have cr0 := R1.at_ (i := 0) (v := .int .i64 0) rfl; have fr0 := R1.frozen 0; have cr1 := R1.at_ (i := 1) (v := .int .i64 0) rfl; have fr1 := R1.frozen 1; have hz : w.heap.size + 1 < w1.heap.size := R1.lt; have hz1 : ¬ w.heap.size + 1 = w1.heap.size := (by omega); have hz2 : ¬ w1.heap.size = w.heap.size + 1 := (by omega); have hz3 : ¬ w.heap.size = w1.heap.size := (by omega); have hz4 : ¬ w1.heap.size = w.heap.size := (by omega))
  have hu0 : ¬ u = 0 := by omega
  clear ga g0 Ba B0 R0 g1
  have N1 := Blk.new w1 23 #[.int .i64 0, .int .i64 0]
  have SA := S1.alloc (.cells #[.int .i64 0, .int .i64 0] 23)
  have RA := R1.alloc (.cells #[.int .i64 0, .int .i64 0] 23)
  have GA := G1.alloc (.cells #[.int .i64 0, .int .i64 0] 23)
  have n0 := N1.at_ (i := 0) (v := .int .i64 0) rfl
  have n1 := N1.at_ (i := 1) (v := .int .i64 0) rfl
  have n2 := N1.frozen 0
  have n3 := N1.frozen 1
  have q0 := SA.at_ (i := 0) (v := .int .i64 a) rfl
  have q1 := SA.at_ (i := 1) (v := .int .i64 b) rfl
  go_region
  have hm0 : 0 ≤ a % u := Int.emod_nonneg _ hu0
  have hm1 : a % u ≤ a := emod_le hb1 (by omega)
  have hw : wrap64 (a - a % u) = a - a % u := by unfold wrap64; omega
  rw [hw]
  have X2 := (Blk.new w1 23 #[.int .i64 (a - a % u), .int .i64 b]).drew
  have S2 := (S1.alloc (.cells #[.int .i64 (a - a % u), .int .i64 b] 23)).drew
  have R2 := (R1.alloc (.cells #[.int .i64 (a - a % u), .int .i64 b] 23)).drew
  have G2 := (G1.alloc (.cells #[.int .i64 (a - a % u), .int .i64 b] 23)).drew
  clear N1 SA RA GA n0 n1 n2 n3 q0 q1 cs0 cs1 fs0 fs1 cr0 cr1 fr0 fr1 S1 R1
  generalize (w1.alloc (.cells #[.int .i64 (a - a % u), .int .i64 b] 23)).drew = W2 at *
  generalize w1.heap.size = x at *
  have x0 := X2.at_ (i := 0) (v := .int .i64 (a - a % u)) rfl
  have x1 := X2.at_ (i := 1) (v := .int .i64 b) rfl
  have s0 := S2.at_ (i := 0) (v := .int .i64 a) rfl
  have s1 := S2.at_ (i := 1) (v := .int .i64 b) rfl
  have r0 := R2.at_ (i := 0) (v := .int .i64 0) rfl
  have r1 := R2.at_ (i := 1) (v := .int .i64 0) rfl
  have xf0 := X2.frozen 0
  have xf1 := X2.frozen 1
  have rf0 := R2.frozen 0
  have rf1 := R2.frozen 1
  have HY : Hid (aliB a b u) := by show aliB a b u; unfold aliB; omega
  have hk0 : 0 ≤ b % u := Int.emod_nonneg _ hu0
  have hk1 : b % u ≤ b := emod_le (by omega) (by omega)
  have hk2 : b % u < u := Int.emod_lt_of_pos _ (by omega)
  by_cases he : b % u = 0
  · go_wp2
    all_goals refine bodyPost_ret (v := _) (by simp [results, Tryd.results28, go_sem, *]; rfl) rfl ?_
    all_goals exact retAli_yes HY.out rfl (by rw [if_pos he]) (by repeat (first | exact G2 | refine Gr.set_ ?_ (by simp <;> omega) _))
  · go_wp2
    all_goals refine bodyPost_ret (v := _) (by simp [results, Tryd.results28, go_sem, *]; rfl) rfl ?_
    all_goals exact retAli_yes HY.out rfl (by rw [if_neg he]) (by repeat (first | exact G2 | refine Gr.set_ ?_ (by simp <;> omega) _))
set_option maxHeartbeats 1600000 in
theorem rali_yes (a b u : Int) (w : World) (hr : rightB a b = true) (hu : ¬ u < 1) (hv : ¬ 1099511627776 < u) : Calls Tryd.prog 29 #[.agg #[.int .i64 a, .int .i64 b], .int .i64 u] w (RetAli a b u w) := by
  obtain ⟨hb1, hb2, hb3⟩ := of_decide_eq_true hr
  have hu0 : ¬ u = 0 := by omega
  have HY : Hid (aliB a b u) := by show aliB a b u; unfold aliB; omega
  have ga : Gr w (w.alloc (.cells #[.int .i64 a, .int .i64 b] 23)) := (Gr.refl w).alloc _
  have g0 : Gr w ((w.alloc (.cells #[.int .i64 a, .int .i64 b] 23)).alloc (.cells #[.int .i64 0, .int .i64 0] 23)) := ga.alloc _
  have Ba := Blk.new w 23 #[.int .i64 a, .int .i64 b]
  have B0 : Blk ((w.alloc (.cells #[.int .i64 a, .int .i64 b] 23)).alloc (.cells #[.int .i64 0, .int .i64 0] 23)) w.heap.size 23 #[.int .i64 a, .int .i64 b] := Ba.alloc _
  have R0 : Blk ((w.alloc (.cells #[.int .i64 a, .int .i64 b] 23)).alloc (.cells #[.int .i64 0, .int .i64 0] 23)) (w.heap.size + 1) 23 #[.int .i64 0, .int .i64 0] := by have h := Blk.new (w.alloc (.cells #[.int .i64 a, .int .i64 b] 23)) 23 #[.int .i64 0, .int .i64 0]; simpa using h
  have hn1 : ¬ w.heap.size + 1 = w.heap.size := by omega
  have hn2 : ¬ w.heap.size = w.heap.size + 1 := by omega
  go_enter Tryd.func29, Tryd.ntmps29
  go_wp2_with (go_at_call 14; refine (rright_calls _ _ _).mono ?_; rintro e w1 ⟨rfl, g1⟩; have G1 := g0.trans g1; have S1 := B0.below g1 B0.lt; have R1 := R0.below g1 R0.lt; have cs0 := S1.at_ (i := 0) (v := .int .i64 a) rfl; have fs0 := S1.frozen 0; have cs1 := S1.at_ (i := 1) (v := .int .i64 b) rfl; have fs1 := S1.frozen 1; have cr0 := R1.at_ (i := 0) (v := .int .i64 0) rfl; have fr0 := R1.frozen 0; have cr1 := R1.at_ (i := 1) (v := .int .i64 0) rfl; have fr1 := R1.frozen 1; have hz : w.heap.size + 1 < w1.heap.size := R1.lt; have hz1 : ¬ w.heap.size + 1 = w1.heap.size := (by omega); have hz2 : ¬ w1.heap.size = w.heap.size + 1 := (by omega); have hz3 : ¬ w.heap.size = w1.heap.size := (by omega); have hz4 : ¬ w1.heap.size = w.heap.size := (by omega))
  have hm0 : 0 ≤ a % u := Int.emod_nonneg _ hu0
  have hm1 : a % u ≤ a := emod_le hb1 (by omega)
  have hk0 : 0 ≤ b % u := Int.emod_nonneg _ hu0
  have hk1 : b % u ≤ b := emod_le (by omega) (by omega)
  have hk2 : b % u < u := Int.emod_lt_of_pos _ (by omega)
  have hw : wrap64 (a / u * u) = a - a % u := by rw [div_down]; unfold wrap64; omega
  rw [hw]
  have pS := S1.set_ 0 (.int .i64 (a - a % u))
  have pR := R1.far (p := ⟨w.heap.size, 0, none⟩) hn1 (.int .i64 (a - a % u))
  have G2 := G1.set_ (p := ⟨w.heap.size, 0, none⟩) (Nat.le_refl _) (.int .i64 (a - a % u))
  clear ga g0 Ba B0 R0 g1 G1 cs0 cs1 fs0 fs1 cr0 cr1 fr0 fr1 S1 R1 hz hz1 hz2 hz3 hz4
  generalize w1.setCell ⟨w.heap.size, 0, none⟩ (.int .i64 (a - a % u)) = W2 at *
  by_cases he : b % u = 0
  · have e1 : (b % u != 0) = false := by simpa using he
    have e3 : ¬ 4611686018427387904 < b := by omega
    have m0 := growc (pS.at_ (i := 0) (v := .int .i64 (a - a % u)) rfl)
    have m1 := growc (pS.at_ (i := 1) (v := .int .i64 b) rfl)
    refine wp_region_grow (by kernel_rfl) (by kernel_rfl) ?_
    repeat (first | go_big_quiet_step (fail) | go_big_quiet_step (exact calls_grow (end_calls _)))
    refine wpQuiet_nil ?_
    rintro w' ⟨r1, rfl⟩
    have G3 := G2.grow_ r1
    have qS := pS.below (grow_below W2 r1) pS.lt
    have qR := pR.below (grow_below W2 r1) pR.lt
    clear m0 m1 pS pR G2
    generalize grow W2 r1 = W3 at *
    have q0 := qS.at_ (i := 0) (v := .int .i64 (a - a % u)) rfl
    have q1 := qS.at_ (i := 1) (v := .int .i64 (b)) rfl
    have q2 := qR.at_ (i := 0) (v := .int .i64 0) rfl
    have q3 := qR.at_ (i := 1) (v := .int .i64 0) rfl
    have q4 := qS.frozen 0
    have q5 := qS.frozen 1
    have q6 := qR.frozen 0
    have q7 := qR.frozen 1
    go_wp2
    have m0 := growc (qS.at_ (i := 0) (v := .int .i64 (a - a % u)) rfl)
    have m1 := growc (qS.at_ (i := 1) (v := .int .i64 (b)) rfl)
    refine wp_region_grow (by kernel_rfl) (by kernel_rfl) ?_
    repeat (first | go_big_quiet_step (fail) | go_big_quiet_step (exact calls_grow (end_calls _)))
    refine wpQuiet_nil ?_
    rintro w' ⟨r2, rfl⟩
    have G4 := G3.grow_ r2
    have zS := qS.below (grow_below _ r2) qS.lt
    have zR := qR.below (grow_below _ r2) qR.lt
    clear m0 m1 qS qR G3
    generalize grow _ r2 = W4 at *
    have z0 := zS.at_ (i := 0) (v := .int .i64 (a - a % u)) rfl
    have z1 := zS.at_ (i := 1) (v := .int .i64 (b)) rfl
    have z2 := zR.at_ (i := 0) (v := .int .i64 0) rfl
    have z3 := zR.at_ (i := 1) (v := .int .i64 0) rfl
    have z4 := zS.frozen 0
    have z5 := zS.frozen 1
    have z6 := zR.frozen 0
    have z7 := zR.frozen 1
    go_wp2
    all_goals refine bodyPost_ret (v := _) (by simp [results, Tryd.results29, go_sem, *]; rfl) rfl ?_
    all_goals exact retAli_yes HY.out rfl (by rw [if_pos he]) (by repeat (first | exact G4 | refine Gr.set_ ?_ (by simp <;> omega) _))
  · have e1 : (b % u != 0) = true := by simpa using he
    by_cases hf : b = 4611686018427387904
    · have e2 : (b != 4611686018427387904) = false := by simpa using hf
      have e3 : ¬ 4611686018427387904 < b := by omega
      replace hf : Hid _ := hf
      have m0 := growc (pS.at_ (i := 0) (v := .int .i64 (a - a % u)) rfl)
      have m1 := growc (pS.at_ (i := 1) (v := .int .i64 b) rfl)
      refine wp_region_grow (by kernel_rfl) (by kernel_rfl) ?_
      repeat (first | go_big_quiet_step (fail) | go_big_quiet_step (exact calls_grow (end_calls _)))
      refine wpQuiet_nil ?_
      rintro w' ⟨r1, rfl⟩
      have G3 := G2.grow_ r1
      have qS := pS.below (grow_below W2 r1) pS.lt
      have qR := pR.below (grow_below W2 r1) pR.lt
      clear m0 m1 pS pR G2
      generalize grow W2 r1 = W3 at *
      have q0 := qS.at_ (i := 0) (v := .int .i64 (a - a % u)) rfl
      have q1 := qS.at_ (i := 1) (v := .int .i64 (b)) rfl
      have q2 := qR.at_ (i := 0) (v := .int .i64 0) rfl
      have q3 := qR.at_ (i := 1) (v := .int .i64 0) rfl
      have q4 := qS.frozen 0
      have q5 := qS.frozen 1
      have q6 := qR.frozen 0
      have q7 := qR.frozen 1
      go_wp2
      have m0 := growc (qS.at_ (i := 0) (v := .int .i64 (a - a % u)) rfl)
      have m1 := growc (qS.at_ (i := 1) (v := .int .i64 (b)) rfl)
      refine wp_region_grow (by kernel_rfl) (by kernel_rfl) ?_
      repeat (first | go_big_quiet_step (fail) | go_big_quiet_step (exact calls_grow (end_calls _)))
      refine wpQuiet_nil ?_
      rintro w' ⟨r2, rfl⟩
      have G4 := G3.grow_ r2
      have zS := qS.below (grow_below _ r2) qS.lt
      have zR := qR.below (grow_below _ r2) qR.lt
      clear m0 m1 qS qR G3
      generalize grow _ r2 = W4 at *
      have z0 := zS.at_ (i := 0) (v := .int .i64 (a - a % u)) rfl
      have z1 := zS.at_ (i := 1) (v := .int .i64 (b)) rfl
      have z2 := zR.at_ (i := 0) (v := .int .i64 0) rfl
      have z3 := zR.at_ (i := 1) (v := .int .i64 0) rfl
      have z4 := zS.frozen 0
      have z5 := zS.frozen 1
      have z6 := zR.frozen 0
      have z7 := zR.frozen 1
      go_wp2
      all_goals refine bodyPost_ret (v := _) (by simp [results, Tryd.results29, go_sem, *]; rfl) rfl ?_
      all_goals exact retAli_yes HY.out rfl (by rw [if_neg he]; have := hf.out; omega) (by repeat (first | exact G4 | refine Gr.set_ ?_ (by simp <;> omega) _))
    · have e2 : (b != 4611686018427387904) = true := by simpa using hf
      replace hf : Hid _ := hf
      by_cases hg : 4611686018427387904 < b - b % u + u
      ·
        have m0 := growc (pS.at_ (i := 0) (v := .int .i64 (a - a % u)) rfl)
        have m1 := growc (pS.at_ (i := 1) (v := .int .i64 b) rfl)
        refine wp_region_grow (by kernel_rfl) (by kernel_rfl) ?_
        repeat (first | go_big_quiet_step (fail) | go_big_quiet_step (exact calls_grow (end_calls _)))
        refine wpQuiet_nil ?_
        rintro w' ⟨r1, rfl⟩
        have G3 := G2.grow_ r1
        have qS := pS.below (grow_below W2 r1) pS.lt
        have qR := pR.below (grow_below W2 r1) pR.lt
        clear m0 m1 pS pR G2
        generalize grow W2 r1 = W3 at *
        have q0 := qS.at_ (i := 0) (v := .int .i64 (a - a % u)) rfl
        have q1 := qS.at_ (i := 1) (v := .int .i64 (b)) rfl
        have q2 := qR.at_ (i := 0) (v := .int .i64 0) rfl
        have q3 := qR.at_ (i := 1) (v := .int .i64 0) rfl
        have q4 := qS.frozen 0
        have q5 := qS.frozen 1
        have q6 := qR.frozen 0
        have q7 := qR.frozen 1
        go_wp2
        have hw2 : wrap64 (wrap64 (b / u + 1) * u) = b - b % u + u := by
          have hd := Int.ediv_nonneg (a := b) (b := u) (by omega) (by omega)
          have hd2 : b / u ≤ b := Int.ediv_le_self _ (by omega)
          rw [show wrap64 (b / u + 1) = b / u + 1 by unfold wrap64; omega, div_up]; unfold wrap64; omega
        rw [hw2]
        have kS := qS.set_ 1 (.int .i64 (b - b % u + u))
        have kR := qR.far (p := ⟨w.heap.size, 1, none⟩) hn1 (.int .i64 (b - b % u + u))
        have G3' := G3.set_ (p := ⟨w.heap.size, 1, none⟩) (Nat.le_refl _) (.int .i64 (b - b % u + u))
        clear q0 q1 q2 q3 q4 q5 q6 q7 qS qR G3
        have qS := kS
        have qR := kR
        have G3 := G3'
        clear kS kR G3'
        generalize W3.setCell ⟨w.heap.size, 1, none⟩ (.int .i64 (b - b % u + u)) = W3b at *
        have m0 := growc (qS.at_ (i := 0) (v := .int .i64 (a - a % u)) rfl)
        have m1 := growc (qS.at_ (i := 1) (v := .int .i64 (b - b % u + u)) rfl)
        refine wp_region_grow (by kernel_rfl) (by kernel_rfl) ?_
        repeat (first | go_big_quiet_step (fail) | go_big_quiet_step (exact calls_grow (end_calls _)))
        refine wpQuiet_nil ?_
        rintro w' ⟨r2, rfl⟩
        have G4 := G3.grow_ r2
        have zS := qS.below (grow_below _ r2) qS.lt
        have zR := qR.below (grow_below _ r2) qR.lt
        clear m0 m1 qS qR G3
        generalize grow _ r2 = W4 at *
        have z0 := zS.at_ (i := 0) (v := .int .i64 (a - a % u)) rfl
        have z1 := zS.at_ (i := 1) (v := .int .i64 (b - b % u + u)) rfl
        have z2 := zR.at_ (i := 0) (v := .int .i64 0) rfl
        have z3 := zR.at_ (i := 1) (v := .int .i64 0) rfl
        have z4 := zS.frozen 0
        have z5 := zS.frozen 1
        have z6 := zR.frozen 0
        have z7 := zR.frozen 1
        go_wp2
        all_goals refine bodyPost_ret (v := _) (by simp [results, Tryd.results29, go_sem, *]; rfl) rfl ?_
        all_goals exact retAli_yes HY.out rfl (by rw [if_neg he]; omega) (by repeat (first | exact G4 | refine Gr.set_ ?_ (by simp <;> omega) _))
      ·
        have m0 := growc (pS.at_ (i := 0) (v := .int .i64 (a - a % u)) rfl)
        have m1 := growc (pS.at_ (i := 1) (v := .int .i64 b) rfl)
        refine wp_region_grow (by kernel_rfl) (by kernel_rfl) ?_
        repeat (first | go_big_quiet_step (fail) | go_big_quiet_step (exact calls_grow (end_calls _)))
        refine wpQuiet_nil ?_
        rintro w' ⟨r1, rfl⟩
        have G3 := G2.grow_ r1
        have qS := pS.below (grow_below W2 r1) pS.lt
        have qR := pR.below (grow_below W2 r1) pR.lt
        clear m0 m1 pS pR G2
        generalize grow W2 r1 = W3 at *
        have q0 := qS.at_ (i := 0) (v := .int .i64 (a - a % u)) rfl
        have q1 := qS.at_ (i := 1) (v := .int .i64 (b)) rfl
        have q2 := qR.at_ (i := 0) (v := .int .i64 0) rfl
        have q3 := qR.at_ (i := 1) (v := .int .i64 0) rfl
        have q4 := qS.frozen 0
        have q5 := qS.frozen 1
        have q6 := qR.frozen 0
        have q7 := qR.frozen 1
        go_wp2
        have hw2 : wrap64 (wrap64 (b / u + 1) * u) = b - b % u + u := by
          have hd := Int.ediv_nonneg (a := b) (b := u) (by omega) (by omega)
          have hd2 : b / u ≤ b := Int.ediv_le_self _ (by omega)
          rw [show wrap64 (b / u + 1) = b / u + 1 by unfold wrap64; omega, div_up]; unfold wrap64; omega
        rw [hw2]
        have kS := qS.set_ 1 (.int .i64 (b - b % u + u))
        have kR := qR.far (p := ⟨w.heap.size, 1, none⟩) hn1 (.int .i64 (b - b % u + u))
        have G3' := G3.set_ (p := ⟨w.heap.size, 1, none⟩) (Nat.le_refl _) (.int .i64 (b - b % u + u))
        clear q0 q1 q2 q3 q4 q5 q6 q7 qS qR G3
        have qS := kS
        have qR := kR
        have G3 := G3'
        clear kS kR G3'
        generalize W3.setCell ⟨w.heap.size, 1, none⟩ (.int .i64 (b - b % u + u)) = W3b at *
        have m0 := growc (qS.at_ (i := 0) (v := .int .i64 (a - a % u)) rfl)
        have m1 := growc (qS.at_ (i := 1) (v := .int .i64 (b - b % u + u)) rfl)
        refine wp_region_grow (by kernel_rfl) (by kernel_rfl) ?_
        repeat (first | go_big_quiet_step (fail) | go_big_quiet_step (exact calls_grow (end_calls _)))
        refine wpQuiet_nil ?_
        rintro w' ⟨r2, rfl⟩
        have G4 := G3.grow_ r2
        have zS := qS.below (grow_below _ r2) qS.lt
        have zR := qR.below (grow_below _ r2) qR.lt
        clear m0 m1 qS qR G3
        generalize grow _ r2 = W4 at *
        have z0 := zS.at_ (i := 0) (v := .int .i64 (a - a % u)) rfl
        have z1 := zS.at_ (i := 1) (v := .int .i64 (b - b % u + u)) rfl
        have z2 := zR.at_ (i := 0) (v := .int .i64 0) rfl
        have z3 := zR.at_ (i := 1) (v := .int .i64 0) rfl
        have z4 := zS.frozen 0
        have z5 := zS.frozen 1
        have z6 := zR.frozen 0
        have z7 := zR.frozen 1
        go_wp2
        all_goals refine bodyPost_ret (v := _) (by simp [results, Tryd.results29, go_sem, *]; rfl) rfl ?_
        all_goals exact retAli_yes HY.out rfl (by rw [if_neg he]; omega) (by repeat (first | exact G4 | refine Gr.set_ ?_ (by simp <;> omega) _))
theorem salign_calls (a b u : Int) (w : World) : Calls Tryd.prog 28 #[.agg #[.int .i64 a, .int .i64 b], .int .i64 u] w (RetAli a b u w) := by
  cases hr : rightB a b
  · exact sali_no1 a b u w hr
  · by_cases hu : u < 1
    · exact sali_no2 a b u w hr hu
    · by_cases hv : 1099511627776 < u
      · exact sali_no3 a b u w hr hu hv
      · exact sali_yes a b u w hr hu hv
theorem ralign_calls (a b u : Int) (w : World) : Calls Tryd.prog 29 #[.agg #[.int .i64 a, .int .i64 b], .int .i64 u] w (RetAli a b u w) := by
  cases hr : rightB a b
  · exact rali_no1 a b u w hr
  · by_cases hu : u < 1
    · exact rali_no2 a b u w hr hu
    · by_cases hv : 1099511627776 < u
      · exact rali_no3 a b u w hr hu hv
      · exact rali_yes a b u w hr hu hv
end Go.Proofs.YtpcedmiehoimbaaDoor
