/-
  The walk of SpanWhole.
-/
import Derived.Test.YtpcedmiehoimbaaDoorSpanLawE
namespace Go.Proofs.YtpcedmiehoimbaaDoor
open Go.RowKit SpanP
theorem sal_yes' (a b u F T : Int) (h : aliB a b u) (hF : aliF a b u = F) (hT : aliT a b u = T) (w : World) : Calls Tryd.prog 28 #[.agg #[.int .i64 a, .int .i64 b], .int .i64 u] w fun e w' => e = .returned (.tuple #[.agg #[.int .i64 F, .int .i64 T], .int .i64 0]) ∧ Gr w w' := by
  subst hF hT
  exact sal_yes a b u h w
theorem shas_in (F T a : Int) (h : hasB F T a = true) (w : World) : Calls Tryd.prog 17 #[.agg #[.int .i64 F, .int .i64 T], .int .i64 a] w fun e w' => e = .returned (.bool true) ∧ Gr w w' := by
  rw [← h]
  exact shas_calls F T a w
set_option maxHeartbeats 3200000 in
theorem spanWhole_walk_00 (a b u F T : Int) (w : World) (hS : Std w) (h : Hid (aliB a b u)) (hF : Hid (aliF a b u = F)) (hT : Hid (aliT a b u = T)) (hh : Hid (hasB F T a = true)) (hl : (lenI a b == 0) = false) (hl0 : ¬ lenI a b = 0) (u1 : 1 ≤ u) (u2 : u ≤ 1099511627776) (u0 : ¬ u = 0) (F0 : 0 ≤ F) (F1 : F ≤ 4611686018427387904) (T0 : 0 ≤ T) (T1 : T ≤ 4611686018427387904) (b1 : b ≤ 4611686018427387904) (a0 : 0 ≤ a) (Fu : (F % u != 0) = false) (Fa : ¬ F + u ≤ a) (Tu : (T % u != 0) = false) (bo : (b == 4611686018427387904) = false) (bn : (b != 4611686018427387904) = true) (Tb : T - u < b) : Calls Tryd.prog 11 #[.agg #[.int .i64 a, .int .i64 b], .int .i64 u] w fun e w' => e = .returned (.bool true) ∧ Gr w w' := by
  have S0 := hS
  have G0 := Gr.refl w
  go_enter Tryd.func11, Tryd.ntmps11
  go_wp2_with (first | (go_at_call 28; refine (sal_yes' a b u F T h.out hF.out hT.out _).mono ?_; rintro e w1 ⟨rfl, g1⟩; have S1 := S0.gr g1.step1; have G1 := G0.trans g1.step1; have bS := Blk.new1 g1; have c1bS0 : ∀ o0, (w1.alloc o0).cell? ⟨w.heap.size, 0, none⟩ = some (.int .i64 (a)) := fun o0 => (bS.alloc o0).at_ rfl; have c1bS1 : ∀ o0, (w1.alloc o0).cell? ⟨w.heap.size, 1, none⟩ = some (.int .i64 (b)) := fun o0 => (bS.alloc o0).at_ rfl) | (go_at_call 12; refine (awake_calls _ (S1.gr ((Gr.refl _).alloc _))).mono ?_; rintro e w2 ⟨rfl, g2⟩; have S2 := S1.gr g2.step1; have G2 := G1.trans g2.step1; replace bS := bS.step1 g2; have ba := Blk.new1 g2; have c2ba0 : w2.cell? ⟨w1.heap.size, 0, none⟩ = some (.int .i64 (F)) := ba.at_ rfl; have c2ba1 : w2.cell? ⟨w1.heap.size, 1, none⟩ = some (.int .i64 (T)) := ba.at_ rfl; have c2bS0 : w2.cell? ⟨w.heap.size, 0, none⟩ = some (.int .i64 (a)) := bS.at_ rfl; have c2bS1 : w2.cell? ⟨w.heap.size, 1, none⟩ = some (.int .i64 (b)) := bS.at_ rfl) | (go_at_call 15; refine (slen_calls a b _).mono ?_; rintro e w3 ⟨rfl, g3⟩; have S3 := S2.gr g3; have G3 := G2.trans g3; replace bS := bS.gr g3; replace ba := ba.gr g3; have c3ba0 : w3.cell? ⟨w1.heap.size, 0, none⟩ = some (.int .i64 (F)) := ba.at_ rfl; have c3ba1 : w3.cell? ⟨w1.heap.size, 1, none⟩ = some (.int .i64 (T)) := ba.at_ rfl; have c3bS0 : w3.cell? ⟨w.heap.size, 0, none⟩ = some (.int .i64 (a)) := bS.at_ rfl; have c3bS1 : w3.cell? ⟨w.heap.size, 1, none⟩ = some (.int .i64 (b)) := bS.at_ rfl) | (go_at_call 17; refine (shas_in F T a hh.out _).mono ?_; rintro e w4 ⟨rfl, g4⟩; have S4 := S3.gr g4; have G4 := G3.trans g4; replace bS := bS.gr g4; replace ba := ba.gr g4; have c4ba0 : w4.cell? ⟨w1.heap.size, 0, none⟩ = some (.int .i64 (F)) := ba.at_ rfl; have c4ba1 : w4.cell? ⟨w1.heap.size, 1, none⟩ = some (.int .i64 (T)) := ba.at_ rfl; have c4bS0 : w4.cell? ⟨w.heap.size, 0, none⟩ = some (.int .i64 (a)) := bS.at_ rfl; have c4bS1 : w4.cell? ⟨w.heap.size, 1, none⟩ = some (.int .i64 (b)) := bS.at_ rfl))
  all_goals go_ret
  all_goals exact ⟨rfl, G4⟩
set_option maxHeartbeats 3200000 in
theorem spanWhole_walk_01 (a b u F T : Int) (w : World) (hS : Std w) (h : Hid (aliB a b u)) (hF : Hid (aliF a b u = F)) (hT : Hid (aliT a b u = T)) (hh : Hid (hasB F T a = true)) (hl : (lenI a b == 0) = false) (hl0 : ¬ lenI a b = 0) (u1 : 1 ≤ u) (u2 : u ≤ 1099511627776) (u0 : ¬ u = 0) (F0 : 0 ≤ F) (F1 : F ≤ 4611686018427387904) (T0 : 0 ≤ T) (T1 : T ≤ 4611686018427387904) (b1 : b ≤ 4611686018427387904) (a0 : 0 ≤ a) (Fu : (F % u != 0) = false) (Fa : ¬ F + u ≤ a) (Tu : (T % u != 0) = false) (bo : (b == 4611686018427387904) = true) (bn : (b != 4611686018427387904) = false) (Te : (T == 4611686018427387904) = true) : Calls Tryd.prog 11 #[.agg #[.int .i64 a, .int .i64 b], .int .i64 u] w fun e w' => e = .returned (.bool true) ∧ Gr w w' := by
  have S0 := hS
  have G0 := Gr.refl w
  go_enter Tryd.func11, Tryd.ntmps11
  go_wp2_with (first | (go_at_call 28; refine (sal_yes' a b u F T h.out hF.out hT.out _).mono ?_; rintro e w1 ⟨rfl, g1⟩; have S1 := S0.gr g1.step1; have G1 := G0.trans g1.step1; have bS := Blk.new1 g1; have c1bS0 : ∀ o0, (w1.alloc o0).cell? ⟨w.heap.size, 0, none⟩ = some (.int .i64 (a)) := fun o0 => (bS.alloc o0).at_ rfl; have c1bS1 : ∀ o0, (w1.alloc o0).cell? ⟨w.heap.size, 1, none⟩ = some (.int .i64 (b)) := fun o0 => (bS.alloc o0).at_ rfl) | (go_at_call 12; refine (awake_calls _ (S1.gr ((Gr.refl _).alloc _))).mono ?_; rintro e w2 ⟨rfl, g2⟩; have S2 := S1.gr g2.step1; have G2 := G1.trans g2.step1; replace bS := bS.step1 g2; have ba := Blk.new1 g2; have c2ba0 : w2.cell? ⟨w1.heap.size, 0, none⟩ = some (.int .i64 (F)) := ba.at_ rfl; have c2ba1 : w2.cell? ⟨w1.heap.size, 1, none⟩ = some (.int .i64 (T)) := ba.at_ rfl; have c2bS0 : w2.cell? ⟨w.heap.size, 0, none⟩ = some (.int .i64 (a)) := bS.at_ rfl; have c2bS1 : w2.cell? ⟨w.heap.size, 1, none⟩ = some (.int .i64 (b)) := bS.at_ rfl) | (go_at_call 15; refine (slen_calls a b _).mono ?_; rintro e w3 ⟨rfl, g3⟩; have S3 := S2.gr g3; have G3 := G2.trans g3; replace bS := bS.gr g3; replace ba := ba.gr g3; have c3ba0 : w3.cell? ⟨w1.heap.size, 0, none⟩ = some (.int .i64 (F)) := ba.at_ rfl; have c3ba1 : w3.cell? ⟨w1.heap.size, 1, none⟩ = some (.int .i64 (T)) := ba.at_ rfl; have c3bS0 : w3.cell? ⟨w.heap.size, 0, none⟩ = some (.int .i64 (a)) := bS.at_ rfl; have c3bS1 : w3.cell? ⟨w.heap.size, 1, none⟩ = some (.int .i64 (b)) := bS.at_ rfl) | (go_at_call 17; refine (shas_in F T a hh.out _).mono ?_; rintro e w4 ⟨rfl, g4⟩; have S4 := S3.gr g4; have G4 := G3.trans g4; replace bS := bS.gr g4; replace ba := ba.gr g4; have c4ba0 : w4.cell? ⟨w1.heap.size, 0, none⟩ = some (.int .i64 (F)) := ba.at_ rfl; have c4ba1 : w4.cell? ⟨w1.heap.size, 1, none⟩ = some (.int .i64 (T)) := ba.at_ rfl; have c4bS0 : w4.cell? ⟨w.heap.size, 0, none⟩ = some (.int .i64 (a)) := bS.at_ rfl; have c4bS1 : w4.cell? ⟨w.heap.size, 1, none⟩ = some (.int .i64 (b)) := bS.at_ rfl))
  all_goals go_ret
  all_goals exact ⟨rfl, G4⟩
set_option maxHeartbeats 3200000 in
theorem spanWhole_walk_10 (a b u F T : Int) (w : World) (hS : Std w) (h : Hid (aliB a b u)) (hF : Hid (aliF a b u = F)) (hT : Hid (aliT a b u = T)) (hh : Hid (hasB F T a = true)) (hl : (lenI a b == 0) = false) (hl0 : ¬ lenI a b = 0) (u1 : 1 ≤ u) (u2 : u ≤ 1099511627776) (u0 : ¬ u = 0) (F0 : 0 ≤ F) (F1 : F ≤ 4611686018427387904) (T0 : 0 ≤ T) (T1 : T ≤ 4611686018427387904) (b1 : b ≤ 4611686018427387904) (a0 : 0 ≤ a) (Fu : (F % u != 0) = false) (Fa : ¬ F + u ≤ a) (Tu : (T % u != 0) = true) (To : (T != 4611686018427387904) = false) (bo : (b == 4611686018427387904) = false) (bn : (b != 4611686018427387904) = true) (Tb : T - u < b) : Calls Tryd.prog 11 #[.agg #[.int .i64 a, .int .i64 b], .int .i64 u] w fun e w' => e = .returned (.bool true) ∧ Gr w w' := by
  have S0 := hS
  have G0 := Gr.refl w
  go_enter Tryd.func11, Tryd.ntmps11
  go_wp2_with (first | (go_at_call 28; refine (sal_yes' a b u F T h.out hF.out hT.out _).mono ?_; rintro e w1 ⟨rfl, g1⟩; have S1 := S0.gr g1.step1; have G1 := G0.trans g1.step1; have bS := Blk.new1 g1; have c1bS0 : ∀ o0, (w1.alloc o0).cell? ⟨w.heap.size, 0, none⟩ = some (.int .i64 (a)) := fun o0 => (bS.alloc o0).at_ rfl; have c1bS1 : ∀ o0, (w1.alloc o0).cell? ⟨w.heap.size, 1, none⟩ = some (.int .i64 (b)) := fun o0 => (bS.alloc o0).at_ rfl) | (go_at_call 12; refine (awake_calls _ (S1.gr ((Gr.refl _).alloc _))).mono ?_; rintro e w2 ⟨rfl, g2⟩; have S2 := S1.gr g2.step1; have G2 := G1.trans g2.step1; replace bS := bS.step1 g2; have ba := Blk.new1 g2; have c2ba0 : w2.cell? ⟨w1.heap.size, 0, none⟩ = some (.int .i64 (F)) := ba.at_ rfl; have c2ba1 : w2.cell? ⟨w1.heap.size, 1, none⟩ = some (.int .i64 (T)) := ba.at_ rfl; have c2bS0 : w2.cell? ⟨w.heap.size, 0, none⟩ = some (.int .i64 (a)) := bS.at_ rfl; have c2bS1 : w2.cell? ⟨w.heap.size, 1, none⟩ = some (.int .i64 (b)) := bS.at_ rfl) | (go_at_call 15; refine (slen_calls a b _).mono ?_; rintro e w3 ⟨rfl, g3⟩; have S3 := S2.gr g3; have G3 := G2.trans g3; replace bS := bS.gr g3; replace ba := ba.gr g3; have c3ba0 : w3.cell? ⟨w1.heap.size, 0, none⟩ = some (.int .i64 (F)) := ba.at_ rfl; have c3ba1 : w3.cell? ⟨w1.heap.size, 1, none⟩ = some (.int .i64 (T)) := ba.at_ rfl; have c3bS0 : w3.cell? ⟨w.heap.size, 0, none⟩ = some (.int .i64 (a)) := bS.at_ rfl; have c3bS1 : w3.cell? ⟨w.heap.size, 1, none⟩ = some (.int .i64 (b)) := bS.at_ rfl) | (go_at_call 17; refine (shas_in F T a hh.out _).mono ?_; rintro e w4 ⟨rfl, g4⟩; have S4 := S3.gr g4; have G4 := G3.trans g4; replace bS := bS.gr g4; replace ba := ba.gr g4; have c4ba0 : w4.cell? ⟨w1.heap.size, 0, none⟩ = some (.int .i64 (F)) := ba.at_ rfl; have c4ba1 : w4.cell? ⟨w1.heap.size, 1, none⟩ = some (.int .i64 (T)) := ba.at_ rfl; have c4bS0 : w4.cell? ⟨w.heap.size, 0, none⟩ = some (.int .i64 (a)) := bS.at_ rfl; have c4bS1 : w4.cell? ⟨w.heap.size, 1, none⟩ = some (.int .i64 (b)) := bS.at_ rfl))
  all_goals go_ret
  all_goals exact ⟨rfl, G4⟩
set_option maxHeartbeats 3200000 in
theorem spanWhole_walk_11 (a b u F T : Int) (w : World) (hS : Std w) (h : Hid (aliB a b u)) (hF : Hid (aliF a b u = F)) (hT : Hid (aliT a b u = T)) (hh : Hid (hasB F T a = true)) (hl : (lenI a b == 0) = false) (hl0 : ¬ lenI a b = 0) (u1 : 1 ≤ u) (u2 : u ≤ 1099511627776) (u0 : ¬ u = 0) (F0 : 0 ≤ F) (F1 : F ≤ 4611686018427387904) (T0 : 0 ≤ T) (T1 : T ≤ 4611686018427387904) (b1 : b ≤ 4611686018427387904) (a0 : 0 ≤ a) (Fu : (F % u != 0) = false) (Fa : ¬ F + u ≤ a) (Tu : (T % u != 0) = true) (To : (T != 4611686018427387904) = false) (bo : (b == 4611686018427387904) = true) (bn : (b != 4611686018427387904) = false) (Te : (T == 4611686018427387904) = true) : Calls Tryd.prog 11 #[.agg #[.int .i64 a, .int .i64 b], .int .i64 u] w fun e w' => e = .returned (.bool true) ∧ Gr w w' := by
  have S0 := hS
  have G0 := Gr.refl w
  go_enter Tryd.func11, Tryd.ntmps11
  go_wp2_with (first | (go_at_call 28; refine (sal_yes' a b u F T h.out hF.out hT.out _).mono ?_; rintro e w1 ⟨rfl, g1⟩; have S1 := S0.gr g1.step1; have G1 := G0.trans g1.step1; have bS := Blk.new1 g1; have c1bS0 : ∀ o0, (w1.alloc o0).cell? ⟨w.heap.size, 0, none⟩ = some (.int .i64 (a)) := fun o0 => (bS.alloc o0).at_ rfl; have c1bS1 : ∀ o0, (w1.alloc o0).cell? ⟨w.heap.size, 1, none⟩ = some (.int .i64 (b)) := fun o0 => (bS.alloc o0).at_ rfl) | (go_at_call 12; refine (awake_calls _ (S1.gr ((Gr.refl _).alloc _))).mono ?_; rintro e w2 ⟨rfl, g2⟩; have S2 := S1.gr g2.step1; have G2 := G1.trans g2.step1; replace bS := bS.step1 g2; have ba := Blk.new1 g2; have c2ba0 : w2.cell? ⟨w1.heap.size, 0, none⟩ = some (.int .i64 (F)) := ba.at_ rfl; have c2ba1 : w2.cell? ⟨w1.heap.size, 1, none⟩ = some (.int .i64 (T)) := ba.at_ rfl; have c2bS0 : w2.cell? ⟨w.heap.size, 0, none⟩ = some (.int .i64 (a)) := bS.at_ rfl; have c2bS1 : w2.cell? ⟨w.heap.size, 1, none⟩ = some (.int .i64 (b)) := bS.at_ rfl) | (go_at_call 15; refine (slen_calls a b _).mono ?_; rintro e w3 ⟨rfl, g3⟩; have S3 := S2.gr g3; have G3 := G2.trans g3; replace bS := bS.gr g3; replace ba := ba.gr g3; have c3ba0 : w3.cell? ⟨w1.heap.size, 0, none⟩ = some (.int .i64 (F)) := ba.at_ rfl; have c3ba1 : w3.cell? ⟨w1.heap.size, 1, none⟩ = some (.int .i64 (T)) := ba.at_ rfl; have c3bS0 : w3.cell? ⟨w.heap.size, 0, none⟩ = some (.int .i64 (a)) := bS.at_ rfl; have c3bS1 : w3.cell? ⟨w.heap.size, 1, none⟩ = some (.int .i64 (b)) := bS.at_ rfl) | (go_at_call 17; refine (shas_in F T a hh.out _).mono ?_; rintro e w4 ⟨rfl, g4⟩; have S4 := S3.gr g4; have G4 := G3.trans g4; replace bS := bS.gr g4; replace ba := ba.gr g4; have c4ba0 : w4.cell? ⟨w1.heap.size, 0, none⟩ = some (.int .i64 (F)) := ba.at_ rfl; have c4ba1 : w4.cell? ⟨w1.heap.size, 1, none⟩ = some (.int .i64 (T)) := ba.at_ rfl; have c4bS0 : w4.cell? ⟨w.heap.size, 0, none⟩ = some (.int .i64 (a)) := bS.at_ rfl; have c4bS1 : w4.cell? ⟨w.heap.size, 1, none⟩ = some (.int .i64 (b)) := bS.at_ rfl))
  all_goals go_ret
  all_goals exact ⟨rfl, G4⟩
theorem spanWhole_walk (a b u : Int) (w : World) (hS : Std w) : Calls Tryd.prog 11 #[.agg #[.int .i64 a, .int .i64 b], .int .i64 u] w fun e w' => e = .returned (.bool true) ∧ Gr w w' := by
  by_cases h : aliB a b u
  · by_cases hl : lenI a b = 0
    · exact spanWhole_walk_n a b u w hS h hl
    · obtain ⟨i1, i2, i3, i4, i5, i6, i7, i8⟩ := ali_in a b u h
      have h' := h
      obtain ⟨h1, h2, h3, h4, h5⟩ := h'
      have hab : a < b := by
        rcases Int.lt_or_le a b with hh | hh
        · exact hh
        · have : a = b := by omega
          subst this
          exact absurd (by unfold lenI; rw [if_pos ⟨h1, h2, h3⟩, if_neg (by omega)]; omega) hl
      have hh : hasB (aliF a b u) (aliT a b u) a = true := decide_eq_true ⟨i1, by omega, i4, i2, by omega⟩
      have bl : (lenI a b == 0) = false := beq_eq_false_iff_ne.2 hl
      have fu : (aliF a b u % u != 0) = false := by simp [i5]
      by_cases tu : aliT a b u % u = 0
      · have tu' : (aliT a b u % u != 0) = false := by simp [tu]
        by_cases bo : b = 4611686018427387904
        · exact spanWhole_walk_01 a b u _ _ w hS h rfl rfl hh bl hl h4 h5 (by omega) i1 (by omega) (by omega) i4 h3 h1 fu (by omega) tu' (beq_iff_eq.2 bo) (by simp [bo]) (beq_iff_eq.2 (by omega))
        · exact spanWhole_walk_00 a b u _ _ w hS h rfl rfl hh bl hl h4 h5 (by omega) i1 (by omega) (by omega) i4 h3 h1 fu (by omega) tu' (beq_eq_false_iff_ne.2 bo) (by simp [bo]) (i8 bo)
      · have tu' : (aliT a b u % u != 0) = true := by simp [tu]
        have to : aliT a b u = 4611686018427387904 := i7.resolve_left tu
        have to' : (aliT a b u != 4611686018427387904) = false := by simp [to]
        by_cases bo : b = 4611686018427387904
        · exact spanWhole_walk_11 a b u _ _ w hS h rfl rfl hh bl hl h4 h5 (by omega) i1 (by omega) (by omega) i4 h3 h1 fu (by omega) tu' to' (beq_iff_eq.2 bo) (by simp [bo]) (beq_iff_eq.2 to)
        · exact spanWhole_walk_10 a b u _ _ w hS h rfl rfl hh bl hl h4 h5 (by omega) i1 (by omega) (by omega) i4 h3 h1 fu (by omega) tu' to' (beq_eq_false_iff_ne.2 bo) (by simp [bo]) (i8 bo)
  · exact spanWhole_walk_f a b u w hS h
end Go.Proofs.YtpcedmiehoimbaaDoor
