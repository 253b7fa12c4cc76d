/-
  The walk of SpanTexts.
-/
import Derived.Test.YtpcedmiehoimbaaDoorSpanAwake
import Derived.Test.YtpcedmiehoimbaaDoorSpanTextPlain
import Derived.Test.YtpcedmiehoimbaaDoorSpanWalkG
namespace Go.Proofs.YtpcedmiehoimbaaDoor
open Go.RowKit SpanP
set_option maxHeartbeats 3200000 in
theorem spanTexts_walk_f (a b c d : Int) (w : World) (hS : Std w) (hr : rightB a b = false) : Calls Tryd.prog 8 #[.agg #[.int .i64 a, .int .i64 b], .agg #[.int .i64 c, .int .i64 d]] w fun e w' => e = .returned (.bool true) ∧ Gr w w' := by
  have htt : (bstr (textL a b)).toList.isEmpty = true := by rw [text_wrong a b hr, bstr_list]; rfl
  have htu : (bstr (textL a b)).toList = [] := by rw [text_wrong a b hr, bstr_list]
  have S0 := hS
  have G0 := Gr.refl w
  go_enter Tryd.func8, Tryd.ntmps8
  go_wp2_with (first | (go_at_call 30; refine (stext_calls a b _ (S0.gr (((Gr.refl _).alloc _).alloc _))).mono ?_; rintro e w1 ⟨rfl, g1⟩; have S1 := S0.gr g1.step2; have G1 := G0.trans g1.step2; have bA := Blk.new2 g1; have bB := Blk.new3 g1; have c1bA0 : w1.cell? ⟨w.heap.size, 0, none⟩ = some (.int .i64 (a)) := bA.at_ rfl; have c1bA1 : w1.cell? ⟨w.heap.size, 1, none⟩ = some (.int .i64 (b)) := bA.at_ rfl; have c1bB0 : w1.cell? ⟨w.heap.size + 1, 0, none⟩ = some (.int .i64 (c)) := bB.at_ rfl; have c1bB1 : w1.cell? ⟨w.heap.size + 1, 1, none⟩ = some (.int .i64 (d)) := bB.at_ rfl) | (go_at_call 12; refine (awake_calls _ S1).mono ?_; rintro e w2 ⟨rfl, g2⟩; have S2 := S1.gr g2; have G2 := G1.trans g2; replace bA := bA.gr g2; replace bB := bB.gr g2; have c2bA0 : w2.cell? ⟨w.heap.size, 0, none⟩ = some (.int .i64 (a)) := bA.at_ rfl; have c2bA1 : w2.cell? ⟨w.heap.size, 1, none⟩ = some (.int .i64 (b)) := bA.at_ rfl; have c2bB0 : w2.cell? ⟨w.heap.size + 1, 0, none⟩ = some (.int .i64 (c)) := bB.at_ rfl; have c2bB1 : w2.cell? ⟨w.heap.size + 1, 1, none⟩ = some (.int .i64 (d)) := bB.at_ rfl) | (go_at_call 31; refine (rtext_calls a b _).mono ?_; rintro e w3 ⟨rfl, g3⟩; have S3 := S2.gr g3; have G3 := G2.trans g3; replace bA := bA.gr g3; replace bB := bB.gr g3; have c3bA0 : w3.cell? ⟨w.heap.size, 0, none⟩ = some (.int .i64 (a)) := bA.at_ rfl; have c3bA1 : w3.cell? ⟨w.heap.size, 1, none⟩ = some (.int .i64 (b)) := bA.at_ rfl; have c3bB0 : w3.cell? ⟨w.heap.size + 1, 0, none⟩ = some (.int .i64 (c)) := bB.at_ rfl; have c3bB1 : w3.cell? ⟨w.heap.size + 1, 1, none⟩ = some (.int .i64 (d)) := bB.at_ rfl) | (go_at_call 32; refine (par_wrong a b hr _ S3).mono ?_; rintro e w4 ⟨rfl, g4⟩; have S4 := S3.gr g4; have G4 := G3.trans g4; replace bA := bA.gr g4; replace bB := bB.gr g4; have c4bA0 : ∀ o0, (w4.alloc o0).cell? ⟨w.heap.size, 0, none⟩ = some (.int .i64 (a)) := fun o0 => (bA.alloc o0).at_ rfl; have c4bA1 : ∀ o0, (w4.alloc o0).cell? ⟨w.heap.size, 1, none⟩ = some (.int .i64 (b)) := fun o0 => (bA.alloc o0).at_ rfl; have c4bB0 : ∀ o0, (w4.alloc o0).cell? ⟨w.heap.size + 1, 0, none⟩ = some (.int .i64 (c)) := fun o0 => (bB.alloc o0).at_ rfl; have c4bB1 : ∀ o0, (w4.alloc o0).cell? ⟨w.heap.size + 1, 1, none⟩ = some (.int .i64 (d)) := fun o0 => (bB.alloc o0).at_ rfl) | (go_at_call 14; refine (rright_calls a b _).mono ?_; rintro e w5 ⟨rfl, g5⟩; have S5 := S4.gr g5.step1; have G5 := G4.trans g5.step1; replace bA := bA.step1 g5; replace bB := bB.step1 g5; have bc := Blk.new1 g5; have c5bA0 : w5.cell? ⟨w.heap.size, 0, none⟩ = some (.int .i64 (a)) := bA.at_ rfl; have c5bA1 : w5.cell? ⟨w.heap.size, 1, none⟩ = some (.int .i64 (b)) := bA.at_ rfl; have c5bB0 : w5.cell? ⟨w.heap.size + 1, 0, none⟩ = some (.int .i64 (c)) := bB.at_ rfl; have c5bB1 : w5.cell? ⟨w.heap.size + 1, 1, none⟩ = some (.int .i64 (d)) := bB.at_ rfl; have c5bc0 : w5.cell? ⟨w4.heap.size, 0, none⟩ = some (.int .i64 (0)) := bc.at_ rfl; have c5bc1 : w5.cell? ⟨w4.heap.size, 1, none⟩ = some (.int .i64 (0)) := bc.at_ rfl))
  all_goals go_ret
  all_goals exact ⟨rfl, G5⟩
set_option maxHeartbeats 3200000 in
theorem spanTexts_walk_s (a b : Int) (w : World) (hS : Std w) (hr : rightB a b = true) : Calls Tryd.prog 8 #[.agg #[.int .i64 a, .int .i64 b], .agg #[.int .i64 a, .int .i64 b]] w fun e w' => e = .returned (.bool true) ∧ Gr w w' := by
  have S0 := hS
  have G0 := Gr.refl w
  go_enter Tryd.func8, Tryd.ntmps8
  go_wp2_with (first | (go_at_call 30; refine (stext_calls a b _ (S0.gr (((Gr.refl _).alloc _).alloc _))).mono ?_; rintro e w1 ⟨rfl, g1⟩; have S1 := S0.gr g1.step2; have G1 := G0.trans g1.step2; have bA := Blk.new2 g1; have bB := Blk.new3 g1; have c1bA0 : w1.cell? ⟨w.heap.size, 0, none⟩ = some (.int .i64 (a)) := bA.at_ rfl; have c1bA1 : w1.cell? ⟨w.heap.size, 1, none⟩ = some (.int .i64 (b)) := bA.at_ rfl; have c1bB0 : w1.cell? ⟨w.heap.size + 1, 0, none⟩ = some (.int .i64 (a)) := bB.at_ rfl; have c1bB1 : w1.cell? ⟨w.heap.size + 1, 1, none⟩ = some (.int .i64 (b)) := bB.at_ rfl) | (go_at_call 12; refine (awake_calls _ S1).mono ?_; rintro e w2 ⟨rfl, g2⟩; have S2 := S1.gr g2; have G2 := G1.trans g2; replace bA := bA.gr g2; replace bB := bB.gr g2; have c2bA0 : w2.cell? ⟨w.heap.size, 0, none⟩ = some (.int .i64 (a)) := bA.at_ rfl; have c2bA1 : w2.cell? ⟨w.heap.size, 1, none⟩ = some (.int .i64 (b)) := bA.at_ rfl; have c2bB0 : w2.cell? ⟨w.heap.size + 1, 0, none⟩ = some (.int .i64 (a)) := bB.at_ rfl; have c2bB1 : w2.cell? ⟨w.heap.size + 1, 1, none⟩ = some (.int .i64 (b)) := bB.at_ rfl) | (go_at_call 31; refine (rtext_calls a b _).mono ?_; rintro e w3 ⟨rfl, g3⟩; have S3 := S2.gr g3; have G3 := G2.trans g3; replace bA := bA.gr g3; replace bB := bB.gr g3; have c3bA0 : w3.cell? ⟨w.heap.size, 0, none⟩ = some (.int .i64 (a)) := bA.at_ rfl; have c3bA1 : w3.cell? ⟨w.heap.size, 1, none⟩ = some (.int .i64 (b)) := bA.at_ rfl; have c3bB0 : w3.cell? ⟨w.heap.size + 1, 0, none⟩ = some (.int .i64 (a)) := bB.at_ rfl; have c3bB1 : w3.cell? ⟨w.heap.size + 1, 1, none⟩ = some (.int .i64 (b)) := bB.at_ rfl) | (go_at_call 32; refine (par_text a b hr _ S3).mono ?_; rintro e w4 ⟨rfl, g4⟩; have S4 := S3.gr g4; have G4 := G3.trans g4; replace bA := bA.gr g4; replace bB := bB.gr g4; have c4bA0 : ∀ o0, (w4.alloc o0).cell? ⟨w.heap.size, 0, none⟩ = some (.int .i64 (a)) := fun o0 => (bA.alloc o0).at_ rfl; have c4bA1 : ∀ o0, (w4.alloc o0).cell? ⟨w.heap.size, 1, none⟩ = some (.int .i64 (b)) := fun o0 => (bA.alloc o0).at_ rfl; have c4bB0 : ∀ o0, (w4.alloc o0).cell? ⟨w.heap.size + 1, 0, none⟩ = some (.int .i64 (a)) := fun o0 => (bB.alloc o0).at_ rfl; have c4bB1 : ∀ o0, (w4.alloc o0).cell? ⟨w.heap.size + 1, 1, none⟩ = some (.int .i64 (b)) := fun o0 => (bB.alloc o0).at_ rfl) | (go_at_call 14; refine (rright_calls a b _).mono ?_; rintro e w5 ⟨rfl, g5⟩; have S5 := S4.gr g5.step1; have G5 := G4.trans g5.step1; replace bA := bA.step1 g5; replace bB := bB.step1 g5; have bc := Blk.new1 g5; have c5bA0 : w5.cell? ⟨w.heap.size, 0, none⟩ = some (.int .i64 (a)) := bA.at_ rfl; have c5bA1 : w5.cell? ⟨w.heap.size, 1, none⟩ = some (.int .i64 (b)) := bA.at_ rfl; have c5bB0 : w5.cell? ⟨w.heap.size + 1, 0, none⟩ = some (.int .i64 (a)) := bB.at_ rfl; have c5bB1 : w5.cell? ⟨w.heap.size + 1, 1, none⟩ = some (.int .i64 (b)) := bB.at_ rfl; have c5bc0 : w5.cell? ⟨w4.heap.size, 0, none⟩ = some (.int .i64 (a)) := bc.at_ rfl; have c5bc1 : w5.cell? ⟨w4.heap.size, 1, none⟩ = some (.int .i64 (b)) := bc.at_ rfl))
  have SW := S5
  have xbA0 := growc (bA.at_ (i := 0) (v := .int .i64 (a)) rfl)
  have xbA1 := growc (bA.at_ (i := 1) (v := .int .i64 (b)) rfl)
  have xbB0 := growc (bB.at_ (i := 0) (v := .int .i64 (a)) rfl)
  have xbB1 := growc (bB.at_ (i := 1) (v := .int .i64 (b)) rfl)
  have xbc0 := growc (bc.at_ (i := 0) (v := .int .i64 (a)) rfl)
  have xbc1 := growc (bc.at_ (i := 1) (v := .int .i64 (b)) rfl)
  refine wp_region_grow (by kernel_rfl) (by kernel_rfl) ?_
  repeat (first | go_big_quiet_step (fail) | go_big_quiet_step (exact calls_grow (stext_calls _ _ _ (SW.gr (grow_below _ _)))))
  refine wpQuiet_nil ?_
  rintro w' ⟨r, rfl⟩
  go_wp2
  go_ret
  exact ⟨rfl, G5.grow_ r⟩
set_option maxHeartbeats 3200000 in
theorem spanTexts_walk_a (a b c d : Int) (w : World) (hS : Std w) (hr : rightB a b = true) (h1 : (a == c) = false) (h2 : ((bstr (textL c d)).toList == (bstr (textL a b)).toList) = false) : Calls Tryd.prog 8 #[.agg #[.int .i64 a, .int .i64 b], .agg #[.int .i64 c, .int .i64 d]] w fun e w' => e = .returned (.bool true) ∧ Gr w w' := by
  have S0 := hS
  have G0 := Gr.refl w
  go_enter Tryd.func8, Tryd.ntmps8
  go_wp2_with (first | (go_at_call 30; refine (stext_calls a b _ (S0.gr (((Gr.refl _).alloc _).alloc _))).mono ?_; rintro e w1 ⟨rfl, g1⟩; have S1 := S0.gr g1.step2; have G1 := G0.trans g1.step2; have bA := Blk.new2 g1; have bB := Blk.new3 g1; have c1bA0 : w1.cell? ⟨w.heap.size, 0, none⟩ = some (.int .i64 (a)) := bA.at_ rfl; have c1bA1 : w1.cell? ⟨w.heap.size, 1, none⟩ = some (.int .i64 (b)) := bA.at_ rfl; have c1bB0 : w1.cell? ⟨w.heap.size + 1, 0, none⟩ = some (.int .i64 (c)) := bB.at_ rfl; have c1bB1 : w1.cell? ⟨w.heap.size + 1, 1, none⟩ = some (.int .i64 (d)) := bB.at_ rfl) | (go_at_call 12; refine (awake_calls _ S1).mono ?_; rintro e w2 ⟨rfl, g2⟩; have S2 := S1.gr g2; have G2 := G1.trans g2; replace bA := bA.gr g2; replace bB := bB.gr g2; have c2bA0 : w2.cell? ⟨w.heap.size, 0, none⟩ = some (.int .i64 (a)) := bA.at_ rfl; have c2bA1 : w2.cell? ⟨w.heap.size, 1, none⟩ = some (.int .i64 (b)) := bA.at_ rfl; have c2bB0 : w2.cell? ⟨w.heap.size + 1, 0, none⟩ = some (.int .i64 (c)) := bB.at_ rfl; have c2bB1 : w2.cell? ⟨w.heap.size + 1, 1, none⟩ = some (.int .i64 (d)) := bB.at_ rfl) | (go_at_call 31; refine (rtext_calls a b _).mono ?_; rintro e w3 ⟨rfl, g3⟩; have S3 := S2.gr g3; have G3 := G2.trans g3; replace bA := bA.gr g3; replace bB := bB.gr g3; have c3bA0 : w3.cell? ⟨w.heap.size, 0, none⟩ = some (.int .i64 (a)) := bA.at_ rfl; have c3bA1 : w3.cell? ⟨w.heap.size, 1, none⟩ = some (.int .i64 (b)) := bA.at_ rfl; have c3bB0 : w3.cell? ⟨w.heap.size + 1, 0, none⟩ = some (.int .i64 (c)) := bB.at_ rfl; have c3bB1 : w3.cell? ⟨w.heap.size + 1, 1, none⟩ = some (.int .i64 (d)) := bB.at_ rfl) | (go_at_call 32; refine (par_text a b hr _ S3).mono ?_; rintro e w4 ⟨rfl, g4⟩; have S4 := S3.gr g4; have G4 := G3.trans g4; replace bA := bA.gr g4; replace bB := bB.gr g4; have c4bA0 : ∀ o0, (w4.alloc o0).cell? ⟨w.heap.size, 0, none⟩ = some (.int .i64 (a)) := fun o0 => (bA.alloc o0).at_ rfl; have c4bA1 : ∀ o0, (w4.alloc o0).cell? ⟨w.heap.size, 1, none⟩ = some (.int .i64 (b)) := fun o0 => (bA.alloc o0).at_ rfl; have c4bB0 : ∀ o0, (w4.alloc o0).cell? ⟨w.heap.size + 1, 0, none⟩ = some (.int .i64 (c)) := fun o0 => (bB.alloc o0).at_ rfl; have c4bB1 : ∀ o0, (w4.alloc o0).cell? ⟨w.heap.size + 1, 1, none⟩ = some (.int .i64 (d)) := fun o0 => (bB.alloc o0).at_ rfl) | (go_at_call 14; refine (rright_calls a b _).mono ?_; rintro e w5 ⟨rfl, g5⟩; have S5 := S4.gr g5.step1; have G5 := G4.trans g5.step1; replace bA := bA.step1 g5; replace bB := bB.step1 g5; have bc := Blk.new1 g5; have c5bA0 : w5.cell? ⟨w.heap.size, 0, none⟩ = some (.int .i64 (a)) := bA.at_ rfl; have c5bA1 : w5.cell? ⟨w.heap.size, 1, none⟩ = some (.int .i64 (b)) := bA.at_ rfl; have c5bB0 : w5.cell? ⟨w.heap.size + 1, 0, none⟩ = some (.int .i64 (c)) := bB.at_ rfl; have c5bB1 : w5.cell? ⟨w.heap.size + 1, 1, none⟩ = some (.int .i64 (d)) := bB.at_ rfl; have c5bc0 : w5.cell? ⟨w4.heap.size, 0, none⟩ = some (.int .i64 (a)) := bc.at_ rfl; have c5bc1 : w5.cell? ⟨w4.heap.size, 1, none⟩ = some (.int .i64 (b)) := bc.at_ rfl))
  have SW := S5
  have xbA0 := growc (bA.at_ (i := 0) (v := .int .i64 (a)) rfl)
  have xbA1 := growc (bA.at_ (i := 1) (v := .int .i64 (b)) rfl)
  have xbB0 := growc (bB.at_ (i := 0) (v := .int .i64 (c)) rfl)
  have xbB1 := growc (bB.at_ (i := 1) (v := .int .i64 (d)) rfl)
  have xbc0 := growc (bc.at_ (i := 0) (v := .int .i64 (a)) rfl)
  have xbc1 := growc (bc.at_ (i := 1) (v := .int .i64 (b)) rfl)
  refine wp_region_grow (by kernel_rfl) (by kernel_rfl) ?_
  repeat (first | go_big_quiet_step (fail) | go_big_quiet_step (exact calls_grow (stext_calls _ _ _ (SW.gr (grow_below _ _)))))
  refine wpQuiet_nil ?_
  rintro w' ⟨r, rfl⟩
  go_wp2
  go_ret
  exact ⟨rfl, G5.grow_ r⟩
set_option maxHeartbeats 3200000 in
theorem spanTexts_walk_b (a b d : Int) (w : World) (hS : Std w) (hr : rightB a b = true) (h1 : (b == d) = false) (h2 : ((bstr (textL a d)).toList == (bstr (textL a b)).toList) = false) : Calls Tryd.prog 8 #[.agg #[.int .i64 a, .int .i64 b], .agg #[.int .i64 a, .int .i64 d]] w fun e w' => e = .returned (.bool true) ∧ Gr w w' := by
  have S0 := hS
  have G0 := Gr.refl w
  go_enter Tryd.func8, Tryd.ntmps8
  go_wp2_with (first | (go_at_call 30; refine (stext_calls a b _ (S0.gr (((Gr.refl _).alloc _).alloc _))).mono ?_; rintro e w1 ⟨rfl, g1⟩; have S1 := S0.gr g1.step2; have G1 := G0.trans g1.step2; have bA := Blk.new2 g1; have bB := Blk.new3 g1; have c1bA0 : w1.cell? ⟨w.heap.size, 0, none⟩ = some (.int .i64 (a)) := bA.at_ rfl; have c1bA1 : w1.cell? ⟨w.heap.size, 1, none⟩ = some (.int .i64 (b)) := bA.at_ rfl; have c1bB0 : w1.cell? ⟨w.heap.size + 1, 0, none⟩ = some (.int .i64 (a)) := bB.at_ rfl; have c1bB1 : w1.cell? ⟨w.heap.size + 1, 1, none⟩ = some (.int .i64 (d)) := bB.at_ rfl) | (go_at_call 12; refine (awake_calls _ S1).mono ?_; rintro e w2 ⟨rfl, g2⟩; have S2 := S1.gr g2; have G2 := G1.trans g2; replace bA := bA.gr g2; replace bB := bB.gr g2; have c2bA0 : w2.cell? ⟨w.heap.size, 0, none⟩ = some (.int .i64 (a)) := bA.at_ rfl; have c2bA1 : w2.cell? ⟨w.heap.size, 1, none⟩ = some (.int .i64 (b)) := bA.at_ rfl; have c2bB0 : w2.cell? ⟨w.heap.size + 1, 0, none⟩ = some (.int .i64 (a)) := bB.at_ rfl; have c2bB1 : w2.cell? ⟨w.heap.size + 1, 1, none⟩ = some (.int .i64 (d)) := bB.at_ rfl) | (go_at_call 31; refine (rtext_calls a b _).mono ?_; rintro e w3 ⟨rfl, g3⟩; have S3 := S2.gr g3; have G3 := G2.trans g3; replace bA := bA.gr g3; replace bB := bB.gr g3; have c3bA0 : w3.cell? ⟨w.heap.size, 0, none⟩ = some (.int .i64 (a)) := bA.at_ rfl; have c3bA1 : w3.cell? ⟨w.heap.size, 1, none⟩ = some (.int .i64 (b)) := bA.at_ rfl; have c3bB0 : w3.cell? ⟨w.heap.size + 1, 0, none⟩ = some (.int .i64 (a)) := bB.at_ rfl; have c3bB1 : w3.cell? ⟨w.heap.size + 1, 1, none⟩ = some (.int .i64 (d)) := bB.at_ rfl) | (go_at_call 32; refine (par_text a b hr _ S3).mono ?_; rintro e w4 ⟨rfl, g4⟩; have S4 := S3.gr g4; have G4 := G3.trans g4; replace bA := bA.gr g4; replace bB := bB.gr g4; have c4bA0 : ∀ o0, (w4.alloc o0).cell? ⟨w.heap.size, 0, none⟩ = some (.int .i64 (a)) := fun o0 => (bA.alloc o0).at_ rfl; have c4bA1 : ∀ o0, (w4.alloc o0).cell? ⟨w.heap.size, 1, none⟩ = some (.int .i64 (b)) := fun o0 => (bA.alloc o0).at_ rfl; have c4bB0 : ∀ o0, (w4.alloc o0).cell? ⟨w.heap.size + 1, 0, none⟩ = some (.int .i64 (a)) := fun o0 => (bB.alloc o0).at_ rfl; have c4bB1 : ∀ o0, (w4.alloc o0).cell? ⟨w.heap.size + 1, 1, none⟩ = some (.int .i64 (d)) := fun o0 => (bB.alloc o0).at_ rfl) | (go_at_call 14; refine (rright_calls a b _).mono ?_; rintro e w5 ⟨rfl, g5⟩; have S5 := S4.gr g5.step1; have G5 := G4.trans g5.step1; replace bA := bA.step1 g5; replace bB := bB.step1 g5; have bc := Blk.new1 g5; have c5bA0 : w5.cell? ⟨w.heap.size, 0, none⟩ = some (.int .i64 (a)) := bA.at_ rfl; have c5bA1 : w5.cell? ⟨w.heap.size, 1, none⟩ = some (.int .i64 (b)) := bA.at_ rfl; have c5bB0 : w5.cell? ⟨w.heap.size + 1, 0, none⟩ = some (.int .i64 (a)) := bB.at_ rfl; have c5bB1 : w5.cell? ⟨w.heap.size + 1, 1, none⟩ = some (.int .i64 (d)) := bB.at_ rfl; have c5bc0 : w5.cell? ⟨w4.heap.size, 0, none⟩ = some (.int .i64 (a)) := bc.at_ rfl; have c5bc1 : w5.cell? ⟨w4.heap.size, 1, none⟩ = some (.int .i64 (b)) := bc.at_ rfl))
  have SW := S5
  have xbA0 := growc (bA.at_ (i := 0) (v := .int .i64 (a)) rfl)
  have xbA1 := growc (bA.at_ (i := 1) (v := .int .i64 (b)) rfl)
  have xbB0 := growc (bB.at_ (i := 0) (v := .int .i64 (a)) rfl)
  have xbB1 := growc (bB.at_ (i := 1) (v := .int .i64 (d)) rfl)
  have xbc0 := growc (bc.at_ (i := 0) (v := .int .i64 (a)) rfl)
  have xbc1 := growc (bc.at_ (i := 1) (v := .int .i64 (b)) rfl)
  refine wp_region_grow (by kernel_rfl) (by kernel_rfl) ?_
  repeat (first | go_big_quiet_step (fail) | go_big_quiet_step (exact calls_grow (stext_calls _ _ _ (SW.gr (grow_below _ _)))))
  refine wpQuiet_nil ?_
  rintro w' ⟨r, rfl⟩
  go_wp2
  go_ret
  exact ⟨rfl, G5.grow_ r⟩
theorem spanTexts_walk (a b c d : Int) (w : World) (hS : Std w) : Calls Tryd.prog 8 #[.agg #[.int .i64 a, .int .i64 b], .agg #[.int .i64 c, .int .i64 d]] w fun e w' => e = .returned (.bool true) ∧ Gr w w' := by
  cases hr : rightB a b with
  | false => exact spanTexts_walk_f a b c d w hS hr
  | true =>
    have key : ∀ c d : Int, ¬ (a = c ∧ b = d) → ((bstr (textL c d)).toList == (bstr (textL a b)).toList) = false := by
      intro c d hn
      rw [bstr_list, bstr_list, beq_eq_false_iff_ne]
      exact fun he => hn (text_inj a b c d hr he)
    by_cases h1 : a = c
    · subst h1
      by_cases h2 : b = d
      · subst h2
        exact spanTexts_walk_s a b w hS hr
      · exact spanTexts_walk_b a b d w hS hr (beq_eq_false_iff_ne.2 h2) (key a d (fun h => h2 h.2))
    · exact spanTexts_walk_a a b c d w hS hr (beq_eq_false_iff_ne.2 h1) (key c d (fun h => h1 h.1))
end Go.Proofs.YtpcedmiehoimbaaDoor
