/-
  The walks of SpanMeets and SpanJoins.
-/
import Derived.Test.YtpcedmiehoimbaaDoorSpanAwake
namespace Go.Proofs.YtpcedmiehoimbaaDoor
open Go.RowKit SpanP
theorem meet_comm (a b c d : Int) : meetF c d a b = meetF a b c d ∧ meetT c d a b = meetT a b c d ∧ meetB c d a b = meetB a b c d := by
  unfold meetF meetT meetB
  rw [Int.max_comm c a, Int.min_comm d b]
  refine ⟨?_, ?_, ?_⟩
  · congr 1; exact propext (by omega)
  · congr 1; exact propext (by omega)
  · exact decide_eq_decide.2 (by omega)
theorem join_comm (a b c d : Int) : joinF c d a b = joinF a b c d ∧ joinT c d a b = joinT a b c d ∧ touchB c d a b = touchB a b c d := by
  unfold joinF joinT touchB
  rw [Int.max_comm c a, Int.min_comm d b, Int.min_comm c a, Int.max_comm d b]
  refine ⟨?_, ?_, ?_⟩
  · congr 1; exact propext (by omega)
  · congr 1; exact propext (by omega)
  · exact decide_eq_decide.2 (by omega)
theorem smeet_sym (a b c d : Int) (w : World) : Calls Tryd.prog 19 #[.agg #[.int .i64 c, .int .i64 d], .agg #[.int .i64 a, .int .i64 b]] w fun e w' => e = .returned (.tuple #[.agg #[.int .i64 (meetF a b c d), .int .i64 (meetT a b c d)], .bool (meetB a b c d)]) ∧ Gr w w' := by
  obtain ⟨h1, h2, h3⟩ := meet_comm a b c d
  rw [← h1, ← h2, ← h3]
  exact smeet_calls c d a b w
theorem sjoin_sym (a b c d : Int) (w : World) : Calls Tryd.prog 23 #[.agg #[.int .i64 c, .int .i64 d], .agg #[.int .i64 a, .int .i64 b]] w fun e w' => e = .returned (.tuple #[.agg #[.int .i64 (joinF a b c d), .int .i64 (joinT a b c d)], .bool (touchB a b c d)]) ∧ Gr w w' := by
  obtain ⟨h1, h2, h3⟩ := join_comm a b c d
  rw [← h1, ← h2, ← h3]
  exact sjoin_calls c d a b w
theorem stouch_sym (a b c d : Int) (w : World) : Calls Tryd.prog 25 #[.agg #[.int .i64 c, .int .i64 d], .agg #[.int .i64 a, .int .i64 b]] w fun e w' => e = .returned (.bool (touchB a b c d)) ∧ Gr w w' := by
  obtain ⟨h1, h2, h3⟩ := join_comm a b c d
  rw [← h3]
  exact stouch_calls c d a b w
set_option maxHeartbeats 3200000 in
theorem spanMeets_walk (a b c d : Int) (w : World) (hS : Std w) : Calls Tryd.prog 4 #[.agg #[.int .i64 a, .int .i64 b], .agg #[.int .i64 c, .int .i64 d]] w fun e w' => e = .returned (.bool true) ∧ Gr w w' := by
  have S0 := hS
  have G0 := Gr.refl w
  go_enter Tryd.func4, Tryd.ntmps4
  go_wp2_with (first | (go_at_call 19; have _q := S1; refine (smeet_sym a b c d _).mono ?_; rintro e w2 ⟨rfl, g2⟩; have S2 := S1.gr g2.step1; have G2 := G1.trans g2.step1; replace bA := bA.step1 g2; replace bB := bB.step1 g2; have bm := Blk.new1 g2; have c2bA0 : ∀ o0, (w2.alloc o0).cell? ⟨w.heap.size, 0, none⟩ = some (.int .i64 (a)) := fun o0 => (bA.alloc o0).at_ rfl; have c2bA1 : ∀ o0, (w2.alloc o0).cell? ⟨w.heap.size, 1, none⟩ = some (.int .i64 (b)) := fun o0 => (bA.alloc o0).at_ rfl; have c2bB0 : ∀ o0, (w2.alloc o0).cell? ⟨w.heap.size + 1, 0, none⟩ = some (.int .i64 (c)) := fun o0 => (bB.alloc o0).at_ rfl; have c2bB1 : ∀ o0, (w2.alloc o0).cell? ⟨w.heap.size + 1, 1, none⟩ = some (.int .i64 (d)) := fun o0 => (bB.alloc o0).at_ rfl) | (go_at_call 19; refine (smeet_calls a b c d _).mono ?_; rintro e w1 ⟨rfl, g1⟩; have S1 := S0.gr g1.step2; have G1 := G0.trans g1.step2; have bA := Blk.new2 g1; have bB := Blk.new3 g1; have c1bA0 : ∀ o0, (w1.alloc o0).cell? ⟨w.heap.size, 0, none⟩ = some (.int .i64 (a)) := fun o0 => (bA.alloc o0).at_ rfl; have c1bA1 : ∀ o0, (w1.alloc o0).cell? ⟨w.heap.size, 1, none⟩ = some (.int .i64 (b)) := fun o0 => (bA.alloc o0).at_ rfl; have c1bB0 : ∀ o0, (w1.alloc o0).cell? ⟨w.heap.size + 1, 0, none⟩ = some (.int .i64 (c)) := fun o0 => (bB.alloc o0).at_ rfl; have c1bB1 : ∀ o0, (w1.alloc o0).cell? ⟨w.heap.size + 1, 1, none⟩ = some (.int .i64 (d)) := fun o0 => (bB.alloc o0).at_ rfl) | (go_at_call 20; refine (rmeet_calls a b c d _).mono ?_; rintro e w3 ⟨rfl, g3⟩; have S3 := S2.gr g3.step1; have G3 := G2.trans g3.step1; replace bA := bA.step1 g3; replace bB := bB.step1 g3; replace bm := bm.step1 g3; have bn := Blk.new1 g3; have c3bA0 : ∀ o0, (w3.alloc o0).cell? ⟨w.heap.size, 0, none⟩ = some (.int .i64 (a)) := fun o0 => (bA.alloc o0).at_ rfl; have c3bA1 : ∀ o0, (w3.alloc o0).cell? ⟨w.heap.size, 1, none⟩ = some (.int .i64 (b)) := fun o0 => (bA.alloc o0).at_ rfl; have c3bB0 : ∀ o0, (w3.alloc o0).cell? ⟨w.heap.size + 1, 0, none⟩ = some (.int .i64 (c)) := fun o0 => (bB.alloc o0).at_ rfl; have c3bB1 : ∀ o0, (w3.alloc o0).cell? ⟨w.heap.size + 1, 1, none⟩ = some (.int .i64 (d)) := fun o0 => (bB.alloc o0).at_ rfl))
  have GW : Gr w3 (w3.alloc (.cells #[.int .i64 (meetF a b c d), .int .i64 (meetT a b c d)] 23)) := (Gr.refl _).alloc _
  have SW := S3.gr GW
  replace bA := bA.gr GW
  replace bB := bB.gr GW
  replace bm := bm.gr GW
  replace bn := bn.gr GW
  have bw : Blk (w3.alloc (.cells #[.int .i64 (meetF a b c d), .int .i64 (meetT a b c d)] 23)) w3.heap.size _ _ := Blk.new w3 23 #[.int .i64 (meetF a b c d), .int .i64 (meetT a b c d)]
  have GF := G3.trans GW
  have xbA0 := growc (bA.at_ (i := 0) (v := .int .i64 (a)) rfl)
  have xbA1 := growc (bA.at_ (i := 1) (v := .int .i64 (b)) rfl)
  have xbB0 := growc (bB.at_ (i := 0) (v := .int .i64 (c)) rfl)
  have xbB1 := growc (bB.at_ (i := 1) (v := .int .i64 (d)) rfl)
  have xbm0 := growc (bm.at_ (i := 0) (v := .int .i64 (meetF a b c d)) rfl)
  have xbm1 := growc (bm.at_ (i := 1) (v := .int .i64 (meetT a b c d)) rfl)
  have xbn0 := growc (bn.at_ (i := 0) (v := .int .i64 (meetF a b c d)) rfl)
  have xbn1 := growc (bn.at_ (i := 1) (v := .int .i64 (meetT a b c d)) rfl)
  have xbw0 := growc (bw.at_ (i := 0) (v := .int .i64 (meetF a b c d)) rfl)
  have xbw1 := growc (bw.at_ (i := 1) (v := .int .i64 (meetT a b c d)) rfl)
  refine wp_region_grow (by kernel_rfl) (by kernel_rfl) ?_
  repeat (first | go_big_quiet_step (fail) | go_big_quiet_step (first | exact calls_grow (awake_calls _ (SW.gr (grow_below _ _))) | exact calls_grow (swithin_calls a b c d _) | exact calls_grow (rwithin_calls a b c d _)))
  refine wpQuiet_nil ?_
  rintro w' ⟨r, rfl⟩
  go_wp2
  go_ret
  exact ⟨rfl, GF.grow_ r⟩
set_option maxHeartbeats 3200000 in
theorem spanJoins_walk (a b c d : Int) (w : World) (hS : Std w) : Calls Tryd.prog 5 #[.agg #[.int .i64 a, .int .i64 b], .agg #[.int .i64 c, .int .i64 d]] w fun e w' => e = .returned (.bool true) ∧ Gr w w' := by
  have S0 := hS
  have G0 := Gr.refl w
  go_enter Tryd.func5, Tryd.ntmps5
  go_wp2_with (first | (go_at_call 23; have _q := S1; refine (sjoin_sym a b c d _).mono ?_; rintro e w2 ⟨rfl, g2⟩; have S2 := S1.gr g2.step1; have G2 := G1.trans g2.step1; replace bA := bA.step1 g2; replace bB := bB.step1 g2; have bm := Blk.new1 g2; have c2bA0 : ∀ o0, (w2.alloc o0).cell? ⟨w.heap.size, 0, none⟩ = some (.int .i64 (a)) := fun o0 => (bA.alloc o0).at_ rfl; have c2bA1 : ∀ o0, (w2.alloc o0).cell? ⟨w.heap.size, 1, none⟩ = some (.int .i64 (b)) := fun o0 => (bA.alloc o0).at_ rfl; have c2bB0 : ∀ o0, (w2.alloc o0).cell? ⟨w.heap.size + 1, 0, none⟩ = some (.int .i64 (c)) := fun o0 => (bB.alloc o0).at_ rfl; have c2bB1 : ∀ o0, (w2.alloc o0).cell? ⟨w.heap.size + 1, 1, none⟩ = some (.int .i64 (d)) := fun o0 => (bB.alloc o0).at_ rfl) | (go_at_call 23; refine (sjoin_calls a b c d _).mono ?_; rintro e w1 ⟨rfl, g1⟩; have S1 := S0.gr g1.step2; have G1 := G0.trans g1.step2; have bA := Blk.new2 g1; have bB := Blk.new3 g1; have c1bA0 : ∀ o0, (w1.alloc o0).cell? ⟨w.heap.size, 0, none⟩ = some (.int .i64 (a)) := fun o0 => (bA.alloc o0).at_ rfl; have c1bA1 : ∀ o0, (w1.alloc o0).cell? ⟨w.heap.size, 1, none⟩ = some (.int .i64 (b)) := fun o0 => (bA.alloc o0).at_ rfl; have c1bB0 : ∀ o0, (w1.alloc o0).cell? ⟨w.heap.size + 1, 0, none⟩ = some (.int .i64 (c)) := fun o0 => (bB.alloc o0).at_ rfl; have c1bB1 : ∀ o0, (w1.alloc o0).cell? ⟨w.heap.size + 1, 1, none⟩ = some (.int .i64 (d)) := fun o0 => (bB.alloc o0).at_ rfl) | (go_at_call 24; refine (rjoin_calls a b c d _).mono ?_; rintro e w3 ⟨rfl, g3⟩; have S3 := S2.gr g3.step1; have G3 := G2.trans g3.step1; replace bA := bA.step1 g3; replace bB := bB.step1 g3; replace bm := bm.step1 g3; have bn := Blk.new1 g3; have c3bA0 : ∀ o0, (w3.alloc o0).cell? ⟨w.heap.size, 0, none⟩ = some (.int .i64 (a)) := fun o0 => (bA.alloc o0).at_ rfl; have c3bA1 : ∀ o0, (w3.alloc o0).cell? ⟨w.heap.size, 1, none⟩ = some (.int .i64 (b)) := fun o0 => (bA.alloc o0).at_ rfl; have c3bB0 : ∀ o0, (w3.alloc o0).cell? ⟨w.heap.size + 1, 0, none⟩ = some (.int .i64 (c)) := fun o0 => (bB.alloc o0).at_ rfl; have c3bB1 : ∀ o0, (w3.alloc o0).cell? ⟨w.heap.size + 1, 1, none⟩ = some (.int .i64 (d)) := fun o0 => (bB.alloc o0).at_ rfl) | (go_at_call 12; refine (awake_calls _ (S3.gr ((Gr.refl _).alloc _))).mono ?_; rintro e w4 ⟨rfl, g4⟩; have S4 := S3.gr g4.step1; have G4 := G3.trans g4.step1; replace bA := bA.step1 g4; replace bB := bB.step1 g4; replace bm := bm.step1 g4; replace bn := bn.step1 g4; have bw := Blk.new1 g4; have c4bm0 : w4.cell? ⟨w1.heap.size, 0, none⟩ = some (.int .i64 (joinF a b c d)) := bm.at_ rfl; have c4bm1 : w4.cell? ⟨w1.heap.size, 1, none⟩ = some (.int .i64 (joinT a b c d)) := bm.at_ rfl; have c4bn0 : w4.cell? ⟨w2.heap.size, 0, none⟩ = some (.int .i64 (joinF a b c d)) := bn.at_ rfl; have c4bn1 : w4.cell? ⟨w2.heap.size, 1, none⟩ = some (.int .i64 (joinT a b c d)) := bn.at_ rfl; have c4bw0 : w4.cell? ⟨w3.heap.size, 0, none⟩ = some (.int .i64 (joinF a b c d)) := bw.at_ rfl; have c4bw1 : w4.cell? ⟨w3.heap.size, 1, none⟩ = some (.int .i64 (joinT a b c d)) := bw.at_ rfl; have c4bA0 : w4.cell? ⟨w.heap.size, 0, none⟩ = some (.int .i64 (a)) := bA.at_ rfl; have c4bA1 : w4.cell? ⟨w.heap.size, 1, none⟩ = some (.int .i64 (b)) := bA.at_ rfl; have c4bB0 : w4.cell? ⟨w.heap.size + 1, 0, none⟩ = some (.int .i64 (c)) := bB.at_ rfl; have c4bB1 : w4.cell? ⟨w.heap.size + 1, 1, none⟩ = some (.int .i64 (d)) := bB.at_ rfl) | (go_at_call 25; have _q := S5; refine (stouch_sym a b c d _).mono ?_; rintro e w6 ⟨rfl, g6⟩; have S6 := S5.gr g6; have G6 := G5.trans g6; replace bA := bA.gr g6; replace bB := bB.gr g6; replace bm := bm.gr g6; replace bn := bn.gr g6; replace bw := bw.gr g6) | (go_at_call 25; refine (stouch_calls a b c d _).mono ?_; rintro e w5 ⟨rfl, g5⟩; have S5 := S4.gr g5; have G5 := G4.trans g5; replace bA := bA.gr g5; replace bB := bB.gr g5; replace bm := bm.gr g5; replace bn := bn.gr g5; replace bw := bw.gr g5; have c5bA0 : w5.cell? ⟨w.heap.size, 0, none⟩ = some (.int .i64 (a)) := bA.at_ rfl; have c5bA1 : w5.cell? ⟨w.heap.size, 1, none⟩ = some (.int .i64 (b)) := bA.at_ rfl; have c5bB0 : w5.cell? ⟨w.heap.size + 1, 0, none⟩ = some (.int .i64 (c)) := bB.at_ rfl; have c5bB1 : w5.cell? ⟨w.heap.size + 1, 1, none⟩ = some (.int .i64 (d)) := bB.at_ rfl))
  all_goals go_ret
  all_goals exact ⟨rfl, G6⟩
end Go.Proofs.YtpcedmiehoimbaaDoor
