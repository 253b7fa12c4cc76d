/-
  The walk of SpanWhole.
-/
import Derived.Test.YtpcedmiehoimbaaDoorSpanLawD
namespace Go.Proofs.YtpcedmiehoimbaaDoor
open Go.RowKit SpanP
set_option maxHeartbeats 3200000 in
theorem spanWhole_walk_f (a b u : Int) (w : World) (hS : Std w) (h : Hid (¬ aliB a b u)) : Calls Tryd.prog 11 #[.agg #[.int .i64 a, .int .i64 b], .int .i64 u] w fun e w' => e = .returned (.bool true) ∧ Gr w w' := by
  have S0 := hS
  have G0 := Gr.refl w
  go_enter Tryd.func11, Tryd.ntmps11
  go_wp2_with (first | (go_at_call 28; refine (sal_no a b u h.out _).mono ?_; rintro e w1 ⟨rfl, g1⟩; have S1 := S0.gr g1.step1; have G1 := G0.trans g1.step1; have bS := Blk.new1 g1; have c1bS0 : ∀ o0, (w1.alloc o0).cell? ⟨w.heap.size, 0, none⟩ = some (.int .i64 (a)) := fun o0 => (bS.alloc o0).at_ rfl; have c1bS1 : ∀ o0, (w1.alloc o0).cell? ⟨w.heap.size, 1, none⟩ = some (.int .i64 (b)) := fun o0 => (bS.alloc o0).at_ rfl) | (go_at_call 12; have _q := S2; refine (awake_calls _ S2).mono ?_; rintro e w3 ⟨rfl, g3⟩; have S3 := S2.gr g3; have G3 := G2.trans g3; replace bS := bS.gr g3; replace ba := ba.gr g3; have c3ba0 : w3.cell? ⟨w1.heap.size, 0, none⟩ = some (.int .i64 (0)) := ba.at_ rfl; have c3ba1 : w3.cell? ⟨w1.heap.size, 1, none⟩ = some (.int .i64 (0)) := ba.at_ rfl; have c3bS0 : w3.cell? ⟨w.heap.size, 0, none⟩ = some (.int .i64 (a)) := bS.at_ rfl; have c3bS1 : w3.cell? ⟨w.heap.size, 1, none⟩ = some (.int .i64 (b)) := bS.at_ rfl) | (go_at_call 12; refine (awake_calls _ (S1.gr ((Gr.refl _).alloc _))).mono ?_; rintro e w2 ⟨rfl, g2⟩; have S2 := S1.gr g2.step1; have G2 := G1.trans g2.step1; replace bS := bS.step1 g2; have ba := Blk.new1 g2; have c2ba0 : w2.cell? ⟨w1.heap.size, 0, none⟩ = some (.int .i64 (0)) := ba.at_ rfl; have c2ba1 : w2.cell? ⟨w1.heap.size, 1, none⟩ = some (.int .i64 (0)) := ba.at_ rfl; have c2bS0 : w2.cell? ⟨w.heap.size, 0, none⟩ = some (.int .i64 (a)) := bS.at_ rfl; have c2bS1 : w2.cell? ⟨w.heap.size, 1, none⟩ = some (.int .i64 (b)) := bS.at_ rfl))
  all_goals go_ret
  all_goals exact ⟨rfl, G3⟩
set_option maxHeartbeats 3200000 in
theorem spanWhole_walk_n (a b u : Int) (w : World) (hS : Std w) (h : Hid (aliB a b u)) (hl : lenI a b = 0) : Calls Tryd.prog 11 #[.agg #[.int .i64 a, .int .i64 b], .int .i64 u] w fun e w' => e = .returned (.bool true) ∧ Gr w w' := by
  have S0 := hS
  have G0 := Gr.refl w
  go_enter Tryd.func11, Tryd.ntmps11
  go_wp2_with (first | (go_at_call 28; refine (sal_yes a b u h.out _).mono ?_; rintro e w1 ⟨rfl, g1⟩; have S1 := S0.gr g1.step1; have G1 := G0.trans g1.step1; have bS := Blk.new1 g1; have c1bS0 : ∀ o0, (w1.alloc o0).cell? ⟨w.heap.size, 0, none⟩ = some (.int .i64 (a)) := fun o0 => (bS.alloc o0).at_ rfl; have c1bS1 : ∀ o0, (w1.alloc o0).cell? ⟨w.heap.size, 1, none⟩ = some (.int .i64 (b)) := fun o0 => (bS.alloc o0).at_ rfl) | (go_at_call 12; have _q := S3; refine (awake_calls _ S3).mono ?_; rintro e w4 ⟨rfl, g4⟩; have S4 := S3.gr g4; have G4 := G3.trans g4; replace bS := bS.gr g4; replace ba := ba.gr g4; have c4ba0 : w4.cell? ⟨w1.heap.size, 0, none⟩ = some (.int .i64 (aliF a b u)) := ba.at_ rfl; have c4ba1 : w4.cell? ⟨w1.heap.size, 1, none⟩ = some (.int .i64 (aliT a b u)) := ba.at_ rfl; have c4bS0 : w4.cell? ⟨w.heap.size, 0, none⟩ = some (.int .i64 (a)) := bS.at_ rfl; have c4bS1 : w4.cell? ⟨w.heap.size, 1, none⟩ = some (.int .i64 (b)) := bS.at_ rfl) | (go_at_call 12; refine (awake_calls _ (S1.gr ((Gr.refl _).alloc _))).mono ?_; rintro e w2 ⟨rfl, g2⟩; have S2 := S1.gr g2.step1; have G2 := G1.trans g2.step1; replace bS := bS.step1 g2; have ba := Blk.new1 g2; have c2ba0 : w2.cell? ⟨w1.heap.size, 0, none⟩ = some (.int .i64 (aliF a b u)) := ba.at_ rfl; have c2ba1 : w2.cell? ⟨w1.heap.size, 1, none⟩ = some (.int .i64 (aliT a b u)) := ba.at_ rfl; have c2bS0 : w2.cell? ⟨w.heap.size, 0, none⟩ = some (.int .i64 (a)) := bS.at_ rfl; have c2bS1 : w2.cell? ⟨w.heap.size, 1, none⟩ = some (.int .i64 (b)) := bS.at_ rfl) | (go_at_call 15; refine (slen_calls a b _).mono ?_; rintro e w3 ⟨rfl, g3⟩; have S3 := S2.gr g3; have G3 := G2.trans g3; replace bS := bS.gr g3; replace ba := ba.gr g3; have c3bS0 : w3.cell? ⟨w.heap.size, 0, none⟩ = some (.int .i64 (a)) := bS.at_ rfl; have c3bS1 : w3.cell? ⟨w.heap.size, 1, none⟩ = some (.int .i64 (b)) := bS.at_ rfl))
  all_goals go_ret
  all_goals exact ⟨rfl, G4⟩
end Go.Proofs.YtpcedmiehoimbaaDoor
