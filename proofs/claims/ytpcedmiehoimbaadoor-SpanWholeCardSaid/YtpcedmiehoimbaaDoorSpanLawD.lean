/-
  The walk of SpanAligns.
-/
import Derived.Test.YtpcedmiehoimbaaDoorSpanAwake
namespace Go.Proofs.YtpcedmiehoimbaaDoor
open Go.RowKit SpanP
theorem ali_in (a b u : Int) (h : aliB a b u) : 0 ≤ aliF a b u ∧ aliF a b u ≤ a ∧ b ≤ aliT a b u ∧ aliT a b u ≤ 4611686018427387904 ∧ aliF a b u % u = 0 ∧ a < aliF a b u + u ∧ (aliT a b u % u = 0 ∨ aliT a b u = 4611686018427387904) ∧ (b ≠ 4611686018427387904 → aliT a b u - u < b) := by
  have h' := h
  obtain ⟨h1, h2, h3, h4, h5⟩ := h'
  have a0 : 0 ≤ a % u := Int.emod_nonneg _ (by omega)
  have a1 : a % u ≤ a := emod_le h1 (by omega)
  have a2 : a % u < u := Int.emod_lt_of_pos _ (by omega)
  have b0 : 0 ≤ b % u := Int.emod_nonneg _ (by omega)
  have b1 : b % u ≤ b := emod_le (by omega) (by omega)
  have b2 : b % u < u := Int.emod_lt_of_pos _ (by omega)
  have hF : aliF a b u = a - a % u := if_pos h
  have hT : aliT a b u = if b % u = 0 then b else min (b - b % u + u) 4611686018427387904 := if_pos h
  have m1 : (a - a % u) % u = 0 := by rw [← div_down]; exact Int.mul_emod_left _ _
  have m2 : (b - b % u + u) % u = 0 := by rw [← div_up]; exact Int.mul_emod_left _ _
  rw [hF, hT]
  refine ⟨by omega, by omega, ?_, ?_, m1, by omega, ?_, ?_⟩
  · split <;> omega
  · split <;> omega
  · split
    · left; assumption
    · rcases Int.le_total (b - b % u + u) 4611686018427387904 with hh | hh
      · left; rw [Int.min_eq_left hh]; exact m2
      · right; exact Int.min_eq_right hh
  · intro _; split <;> omega
theorem ali_again (a b u : Int) (h : aliB a b u) : aliB (aliF a b u) (aliT a b u) u ∧ aliF (aliF a b u) (aliT a b u) u = aliF a b u ∧ aliT (aliF a b u) (aliT a b u) u = aliT a b u := by
  obtain ⟨i1, i2, i3, i4, i5, i6, i7, i8⟩ := ali_in a b u h
  obtain ⟨h1, h2, h3, h4, h5⟩ := h
  have hB : aliB (aliF a b u) (aliT a b u) u := ⟨i1, by omega, i4, h4, h5⟩
  refine ⟨hB, ?_, ?_⟩
  · have e : aliF (aliF a b u) (aliT a b u) u = aliF a b u - aliF a b u % u := if_pos hB
    rw [e, i5]; omega
  · have e : aliT (aliF a b u) (aliT a b u) u = if aliT a b u % u = 0 then aliT a b u else min (aliT a b u - aliT a b u % u + u) 4611686018427387904 := if_pos hB
    rw [e]
    split
    · rfl
    · rcases i7 with i7 | i7
      · contradiction
      · have := Int.emod_lt_of_pos (aliT a b u) (b := u) (by omega)
        omega
theorem ali_within (a b u : Int) (h : aliB a b u) : withinB a b (aliF a b u) (aliT a b u) = true := by
  obtain ⟨i1, i2, i3, i4, i5, i6, i7, i8⟩ := ali_in a b u h
  obtain ⟨h1, h2, h3, h4, h5⟩ := h
  exact decide_eq_true ⟨h1, h2, h3, i1, by omega, i4, Or.inr ⟨i2, i3⟩⟩
theorem sal_no (a b u : Int) (h : ¬ aliB a b u) (w : World) : Calls Tryd.prog 28 #[.agg #[.int .i64 a, .int .i64 b], .int .i64 u] w fun e w' => e = .returned (.tuple #[.agg #[.int .i64 0, .int .i64 0], .int .i64 1]) ∧ Gr w w' := by
  refine (salign_calls a b u w).mono ?_
  rintro e w' ⟨rfl, g⟩
  exact ⟨by simp [aliF, aliT, aliE, h], g⟩
theorem ral_no (a b u : Int) (h : ¬ aliB a b u) (w : World) : Calls Tryd.prog 29 #[.agg #[.int .i64 a, .int .i64 b], .int .i64 u] w fun e w' => e = .returned (.tuple #[.agg #[.int .i64 0, .int .i64 0], .int .i64 1]) ∧ Gr w w' := by
  refine (ralign_calls a b u w).mono ?_
  rintro e w' ⟨rfl, g⟩
  exact ⟨by simp [aliF, aliT, aliE, h], g⟩
theorem sal_yes (a b u : Int) (h : aliB a b u) (w : World) : Calls Tryd.prog 28 #[.agg #[.int .i64 a, .int .i64 b], .int .i64 u] w fun e w' => e = .returned (.tuple #[.agg #[.int .i64 (aliF a b u), .int .i64 (aliT a b u)], .int .i64 0]) ∧ Gr w w' := by
  refine (salign_calls a b u w).mono ?_
  rintro e w' ⟨rfl, g⟩
  exact ⟨by rw [show aliE a b u = 0 from if_pos h], g⟩
theorem ral_yes (a b u : Int) (h : aliB a b u) (w : World) : Calls Tryd.prog 29 #[.agg #[.int .i64 a, .int .i64 b], .int .i64 u] w fun e w' => e = .returned (.tuple #[.agg #[.int .i64 (aliF a b u), .int .i64 (aliT a b u)], .int .i64 0]) ∧ Gr w w' := by
  refine (ralign_calls a b u w).mono ?_
  rintro e w' ⟨rfl, g⟩
  exact ⟨by rw [show aliE a b u = 0 from if_pos h], g⟩
theorem sal_again (a b u : Int) (h : aliB a b u) (w : World) : Calls Tryd.prog 28 #[.agg #[.int .i64 (aliF a b u), .int .i64 (aliT a b u)], .int .i64 u] w fun e w' => e = .returned (.tuple #[.agg #[.int .i64 (aliF a b u), .int .i64 (aliT a b u)], .int .i64 0]) ∧ Gr w w' := by
  obtain ⟨h1, h2, h3⟩ := ali_again a b u h
  refine (sal_yes _ _ u h1 w).mono ?_
  rintro e w' ⟨rfl, g⟩
  exact ⟨by rw [h2, h3], g⟩
theorem sal_within (a b u : Int) (h : aliB a b u) (w : World) : Calls Tryd.prog 21 #[.agg #[.int .i64 a, .int .i64 b], .agg #[.int .i64 (aliF a b u), .int .i64 (aliT a b u)]] w fun e w' => e = .returned (.bool true) ∧ Gr w w' := by
  refine (swithin_calls a b (aliF a b u) (aliT a b u) w).mono ?_
  rintro e w' ⟨rfl, g⟩
  exact ⟨by rw [ali_within a b u h], g⟩
set_option maxHeartbeats 3200000 in
theorem spanAligns_walk_t (a b u : Int) (w : World) (hS : Std w) (h : Hid (aliB a b u)) : Calls Tryd.prog 7 #[.agg #[.int .i64 a, .int .i64 b], .int .i64 u] w fun e w' => e = .returned (.bool true) ∧ Gr w w' := by
  have S0 := hS
  have G0 := Gr.refl w
  go_enter Tryd.func7, Tryd.ntmps7
  go_wp2_with (first | (go_at_call 28; have _q := S3; refine (sal_again a b u h.out _).mono ?_; rintro e w4 ⟨rfl, g4⟩; have S4 := S3.gr g4; have G4 := G3.trans g4; replace bS := bS.gr g4; replace ba := ba.gr g4; replace bb := bb.gr g4; have c4ba0 : ∀ o0, (w4.alloc o0).cell? ⟨w1.heap.size, 0, none⟩ = some (.int .i64 (aliF a b u)) := fun o0 => (ba.alloc o0).at_ rfl; have c4ba1 : ∀ o0, (w4.alloc o0).cell? ⟨w1.heap.size, 1, none⟩ = some (.int .i64 (aliT a b u)) := fun o0 => (ba.alloc o0).at_ rfl; have c4bS0 : ∀ o0, (w4.alloc o0).cell? ⟨w.heap.size, 0, none⟩ = some (.int .i64 (a)) := fun o0 => (bS.alloc o0).at_ rfl; have c4bS1 : ∀ o0, (w4.alloc o0).cell? ⟨w.heap.size, 1, none⟩ = some (.int .i64 (b)) := fun o0 => (bS.alloc o0).at_ rfl; have zc0 := (Blk.new w4 23 #[.int .i64 (aliF a b u), .int .i64 (aliT a b u)]).at_ (i := 0) (v := .int .i64 (aliF a b u)) rfl; have zc1 := (Blk.new w4 23 #[.int .i64 (aliF a b u), .int .i64 (aliT a b u)]).at_ (i := 1) (v := .int .i64 (aliT a b u)) rfl) | (go_at_call 28; refine (sal_yes a b u h.out _).mono ?_; rintro e w1 ⟨rfl, g1⟩; have S1 := S0.gr g1.step1; have G1 := G0.trans g1.step1; have bS := Blk.new1 g1; have c1bS0 : ∀ o0, (w1.alloc o0).cell? ⟨w.heap.size, 0, none⟩ = some (.int .i64 (a)) := fun o0 => (bS.alloc o0).at_ rfl; have c1bS1 : ∀ o0, (w1.alloc o0).cell? ⟨w.heap.size, 1, none⟩ = some (.int .i64 (b)) := fun o0 => (bS.alloc o0).at_ rfl) | (go_at_call 29; refine (ral_yes a b u h.out _).mono ?_; rintro e w2 ⟨rfl, g2⟩; have S2 := S1.gr g2.step1; have G2 := G1.trans g2.step1; replace bS := bS.step1 g2; have ba := Blk.new1 g2; have c2bS0 : ∀ o0, (w2.alloc o0).cell? ⟨w.heap.size, 0, none⟩ = some (.int .i64 (a)) := fun o0 => (bS.alloc o0).at_ rfl; have c2bS1 : ∀ o0, (w2.alloc o0).cell? ⟨w.heap.size, 1, none⟩ = some (.int .i64 (b)) := fun o0 => (bS.alloc o0).at_ rfl) | (go_at_call 12; refine (awake_calls _ (S2.gr ((Gr.refl _).alloc _))).mono ?_; rintro e w3 ⟨rfl, g3⟩; have S3 := S2.gr g3.step1; have G3 := G2.trans g3.step1; replace bS := bS.step1 g3; replace ba := ba.step1 g3; have bb := Blk.new1 g3; have c3ba0 : w3.cell? ⟨w1.heap.size, 0, none⟩ = some (.int .i64 (aliF a b u)) := ba.at_ rfl; have c3ba1 : w3.cell? ⟨w1.heap.size, 1, none⟩ = some (.int .i64 (aliT a b u)) := ba.at_ rfl; have c3bb0 : w3.cell? ⟨w2.heap.size, 0, none⟩ = some (.int .i64 (aliF a b u)) := bb.at_ rfl; have c3bb1 : w3.cell? ⟨w2.heap.size, 1, none⟩ = some (.int .i64 (aliT a b u)) := bb.at_ rfl; have c3bS0 : w3.cell? ⟨w.heap.size, 0, none⟩ = some (.int .i64 (a)) := bS.at_ rfl; have c3bS1 : w3.cell? ⟨w.heap.size, 1, none⟩ = some (.int .i64 (b)) := bS.at_ rfl) | (go_at_call 21; refine (sal_within a b u h.out _).mono ?_; rintro e w5 ⟨rfl, g5⟩; have S5 := S4.gr g5.step1; have G5 := G4.trans g5.step1; replace bS := bS.step1 g5; replace ba := ba.step1 g5; replace bb := bb.step1 g5; have bc := Blk.new1 g5))
  all_goals go_ret
  all_goals exact ⟨rfl, G5⟩
set_option maxHeartbeats 3200000 in
theorem spanAligns_walk_f (a b u : Int) (w : World) (hS : Std w) (h : Hid (¬ aliB a b u)) : Calls Tryd.prog 7 #[.agg #[.int .i64 a, .int .i64 b], .int .i64 u] w fun e w' => e = .returned (.bool true) ∧ Gr w w' := by
  have S0 := hS
  have G0 := Gr.refl w
  go_enter Tryd.func7, Tryd.ntmps7
  go_wp2_with (first | (go_at_call 28; refine (sal_no a b u h.out _).mono ?_; rintro e w1 ⟨rfl, g1⟩; have S1 := S0.gr g1.step1; have G1 := G0.trans g1.step1; have bS := Blk.new1 g1; have c1bS0 : ∀ o0, (w1.alloc o0).cell? ⟨w.heap.size, 0, none⟩ = some (.int .i64 (a)) := fun o0 => (bS.alloc o0).at_ rfl; have c1bS1 : ∀ o0, (w1.alloc o0).cell? ⟨w.heap.size, 1, none⟩ = some (.int .i64 (b)) := fun o0 => (bS.alloc o0).at_ rfl) | (go_at_call 29; refine (ral_no a b u h.out _).mono ?_; rintro e w2 ⟨rfl, g2⟩; have S2 := S1.gr g2.step1; have G2 := G1.trans g2.step1; replace bS := bS.step1 g2; have ba := Blk.new1 g2; have c2bS0 : ∀ o0, (w2.alloc o0).cell? ⟨w.heap.size, 0, none⟩ = some (.int .i64 (a)) := fun o0 => (bS.alloc o0).at_ rfl; have c2bS1 : ∀ o0, (w2.alloc o0).cell? ⟨w.heap.size, 1, none⟩ = some (.int .i64 (b)) := fun o0 => (bS.alloc o0).at_ rfl) | (go_at_call 12; refine (awake_calls _ (S2.gr ((Gr.refl _).alloc _))).mono ?_; rintro e w3 ⟨rfl, g3⟩; have S3 := S2.gr g3.step1; have G3 := G2.trans g3.step1; replace bS := bS.step1 g3; replace ba := ba.step1 g3; have bb := Blk.new1 g3; have c3ba0 : w3.cell? ⟨w1.heap.size, 0, none⟩ = some (.int .i64 (0)) := ba.at_ rfl; have c3ba1 : w3.cell? ⟨w1.heap.size, 1, none⟩ = some (.int .i64 (0)) := ba.at_ rfl; have c3bb0 : w3.cell? ⟨w2.heap.size, 0, none⟩ = some (.int .i64 (0)) := bb.at_ rfl; have c3bb1 : w3.cell? ⟨w2.heap.size, 1, none⟩ = some (.int .i64 (0)) := bb.at_ rfl; have c3bS0 : w3.cell? ⟨w.heap.size, 0, none⟩ = some (.int .i64 (a)) := bS.at_ rfl; have c3bS1 : w3.cell? ⟨w.heap.size, 1, none⟩ = some (.int .i64 (b)) := bS.at_ rfl))
  all_goals go_ret
  all_goals exact ⟨rfl, G3⟩
theorem spanAligns_walk (a b u : Int) (w : World) (hS : Std w) : Calls Tryd.prog 7 #[.agg #[.int .i64 a, .int .i64 b], .int .i64 u] w fun e w' => e = .returned (.bool true) ∧ Gr w w' := by
  by_cases h : aliB a b u
  · exact spanAligns_walk_t a b u w hS h
  · exact spanAligns_walk_f a b u w hS h
end Go.Proofs.YtpcedmiehoimbaaDoor
