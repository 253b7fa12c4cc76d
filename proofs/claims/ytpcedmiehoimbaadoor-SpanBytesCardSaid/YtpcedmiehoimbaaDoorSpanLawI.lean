/-
  The walk of SpanBytes.
-/
import Derived.Test.YtpcedmiehoimbaaDoorSpanAwake
import Derived.Test.YtpcedmiehoimbaaDoorSpanAll
import Derived.Test.YtpcedmiehoimbaaDoorSpanBytesPlain
namespace Go.Proofs.YtpcedmiehoimbaaDoor
open Go.RowKit SpanP
/-- What the statement's loop goes over: numbers that can be read. -/
theorem out_at {w6 : World} {A : Option Addr} {ys : List Value} (h : RV w6 A ys) (hi : ∀ u ∈ ys, ∃ x : Int, u = .int .i64 x) {k : Nat} (hk : k < ys.length) : ∃ b off p, A = some ⟨b, off, none⟩ ∧ b < w6.heap.size ∧ w6.cell? ⟨b, off + k, none⟩ = some (.int .i64 p) := by
  obtain ⟨b, off, e, hb, hc⟩ := RV.at_ h hk
  obtain ⟨p, hp⟩ := hi _ (List.getElem_mem hk)
  exact ⟨b, off, p, e, hb, by rw [hc, hp]⟩
theorem ints1 {xs : List Value} (x : Int) (h : ∀ u ∈ xs, ∃ x : Int, u = .int .i64 x) : ∀ u ∈ xs ++ [Value.int .i64 x], ∃ x : Int, u = .int .i64 x := by
  intro u hu
  rcases List.mem_append.1 hu with h1 | h1
  · exact h u h1
  · simp at h1
    exact ⟨x, h1⟩
theorem one1 (x : Int) : ∀ u ∈ [Value.int .i64 x], u.oneCell' = true := by
  intro u hu
  simp at hu
  subst hu
  rfl
set_option maxHeartbeats 6400000 in
set_option maxRecDepth 100000 in
theorem spanBytes_tt (a b c d x mF mT jF jT cA cM cB : Int)
    (HM : Hid (∀ w : World, Calls Tryd.prog 19 #[.agg #[.int .i64 a, .int .i64 b], .agg #[.int .i64 c, .int .i64 d]] w fun e w' => e = .returned (.tuple #[.agg #[.int .i64 mF, .int .i64 mT], .bool true]) ∧ Gr w w'))
    (HJ : Hid (∀ w : World, Calls Tryd.prog 23 #[.agg #[.int .i64 a, .int .i64 b], .agg #[.int .i64 c, .int .i64 d]] w fun e w' => e = .returned (.tuple #[.agg #[.int .i64 jF, .int .i64 jT], .bool true]) ∧ Gr w w'))
    (HC : Hid (∀ w : World, Calls Tryd.prog 26 #[.agg #[.int .i64 a, .int .i64 b], .int .i64 x] w fun e w' => e = .returned (.tuple #[.agg #[.int .i64 cA, .int .i64 cM], .agg #[.int .i64 cM, .int .i64 cB]]) ∧ Gr w w'))
    (hm : Hid (∀ p, hasB mF mT p = (hasB a b p && hasB c d p)))
    (hj : Hid (∀ p, hasB jF jT p = (hasB a b p || hasB c d p)))
    (hx : Hid (∀ p, hasB cA cM p = (hasB a b p && decide (p < x)))) (hy : Hid (∀ p, hasB cM cB p = (hasB a b p && decide (x ≤ p))))
    (w : World) (hS : Std w) : Calls Tryd.prog 10 #[.agg #[.int .i64 a, .int .i64 b], .agg #[.int .i64 c, .int .i64 d], .int .i64 x] w fun e w' => e = .returned (.bool true) ∧ Gr w w' := by
  have bA0 := (Blk.new w 23 #[.int .i64 a, .int .i64 b]).alloc (.cells #[.int .i64 c, .int .i64 d] 23)
  have bB0 := Blk.new (w.alloc (.cells #[.int .i64 a, .int .i64 b] 23)) 23 #[.int .i64 c, .int .i64 d]
  rw [World.size_alloc] at bB0
  have G0 : Gr w ((w.alloc (.cells #[.int .i64 a, .int .i64 b] 23)).alloc (.cells #[.int .i64 c, .int .i64 d] 23)) := ((Gr.refl w).alloc _).alloc _
  have S0 := hS.gr G0
  go_enter Tryd.func10, Tryd.ntmps10
  go_wp2_with (first | (go_at_call 12; refine (awake_calls _ S0).mono ?_; rintro e w1 ⟨rfl, g1⟩; have G1 := G0.trans g1; have bA1 := bA0.below g1 bA0.lt; have bB1 := bB0.below g1 bB0.lt; have p10 : w1.cell? ⟨w.heap.size, 0, none⟩ = some (.int .i64 a) := bA1.at_ rfl; have p11 : w1.cell? ⟨w.heap.size, 1, none⟩ = some (.int .i64 b) := bA1.at_ rfl; have q10 : w1.cell? ⟨w.heap.size + 1, 0, none⟩ = some (.int .i64 c) := bB1.at_ rfl; have q11 : w1.cell? ⟨w.heap.size + 1, 1, none⟩ = some (.int .i64 d) := bB1.at_ rfl) | (go_at_call 19; refine (HM.out _).mono ?_; rintro e w2 ⟨rfl, g2⟩; have g2x : Gr w1 (w2.alloc (.cells #[.int .i64 mF, .int .i64 mT] 23)) := Gr.alloc g2 _; have G2 := G1.trans g2x; have bA2 := bA1.below g2x bA1.lt; have bB2 := bB1.below g2x bB1.lt; have bM2 := Blk.new w2 23 #[.int .i64 mF, .int .i64 mT]; have p20 : (w2.alloc (.cells #[.int .i64 mF, .int .i64 mT] 23)).cell? ⟨w.heap.size, 0, none⟩ = some (.int .i64 a) := bA2.at_ rfl; have p21 : (w2.alloc (.cells #[.int .i64 mF, .int .i64 mT] 23)).cell? ⟨w.heap.size, 1, none⟩ = some (.int .i64 b) := bA2.at_ rfl; have q20 : (w2.alloc (.cells #[.int .i64 mF, .int .i64 mT] 23)).cell? ⟨w.heap.size + 1, 0, none⟩ = some (.int .i64 c) := bB2.at_ rfl; have q21 : (w2.alloc (.cells #[.int .i64 mF, .int .i64 mT] 23)).cell? ⟨w.heap.size + 1, 1, none⟩ = some (.int .i64 d) := bB2.at_ rfl) | (go_at_call 23; refine (HJ.out _).mono ?_; rintro e w3 ⟨rfl, g3⟩; have g3x : Gr (w2.alloc (.cells #[.int .i64 mF, .int .i64 mT] 23)) (w3.alloc (.cells #[.int .i64 jF, .int .i64 jT] 23)) := Gr.alloc g3 _; have G3 := G2.trans g3x; have bA3 := bA2.below g3x bA2.lt; have bB3 := bB2.below g3x bB2.lt; have bM3 := bM2.below g3x bM2.lt; have bJ3 := Blk.new w3 23 #[.int .i64 jF, .int .i64 jT]; have p30 : (w3.alloc (.cells #[.int .i64 jF, .int .i64 jT] 23)).cell? ⟨w.heap.size, 0, none⟩ = some (.int .i64 a) := bA3.at_ rfl; have p31 : (w3.alloc (.cells #[.int .i64 jF, .int .i64 jT] 23)).cell? ⟨w.heap.size, 1, none⟩ = some (.int .i64 b) := bA3.at_ rfl; have q30 : (w3.alloc (.cells #[.int .i64 jF, .int .i64 jT] 23)).cell? ⟨w.heap.size + 1, 0, none⟩ = some (.int .i64 c) := bB3.at_ rfl; have q31 : (w3.alloc (.cells #[.int .i64 jF, .int .i64 jT] 23)).cell? ⟨w.heap.size + 1, 1, none⟩ = some (.int .i64 d) := bB3.at_ rfl) | (go_at_call 26; refine (HC.out _).mono ?_; rintro e w4 ⟨rfl, g4⟩; have g4x : Gr (w3.alloc (.cells #[.int .i64 jF, .int .i64 jT] 23)) ((w4.alloc (.cells #[.int .i64 cA, .int .i64 cM] 23)).alloc (.cells #[.int .i64 cM, .int .i64 cB] 23)) := Gr.alloc (Gr.alloc g4 _) _; have G4 := G3.trans g4x; have bA4 := bA3.below g4x bA3.lt; have bB4 := bB3.below g4x bB3.lt; have bM4 := bM3.below g4x bM3.lt; have bJ4 := bJ3.below g4x bJ3.lt; have bX4 := (Blk.new w4 23 #[.int .i64 cA, .int .i64 cM]).alloc (.cells #[.int .i64 cM, .int .i64 cB] 23); have bY4 : Blk ((w4.alloc (.cells #[.int .i64 cA, .int .i64 cM] 23)).alloc (.cells #[.int .i64 cM, .int .i64 cB] 23)) (w4.heap.size + 1) 23 #[.int .i64 cM, .int .i64 cB] := (by have := Blk.new (w4.alloc (.cells #[.int .i64 cA, .int .i64 cM] 23)) 23 #[.int .i64 cM, .int .i64 cB]; rwa [World.size_alloc] at this); have g5x : Gr ((w4.alloc (.cells #[.int .i64 cA, .int .i64 cM] 23)).alloc (.cells #[.int .i64 cM, .int .i64 cB] 23)) (((w4.alloc (.cells #[.int .i64 cA, .int .i64 cM] 23)).alloc (.cells #[.int .i64 cM, .int .i64 cB] 23)).alloc (.cells #[.int .i64 a, .int .i64 b, .int .i64 c, .int .i64 d] 23)) := Gr.alloc (Gr.refl _) _; have bZ4 : Blk (((w4.alloc (.cells #[.int .i64 cA, .int .i64 cM] 23)).alloc (.cells #[.int .i64 cM, .int .i64 cB] 23)).alloc (.cells #[.int .i64 a, .int .i64 b, .int .i64 c, .int .i64 d] 23)) (w4.heap.size + 1 + 1) 23 #[.int .i64 a, .int .i64 b, .int .i64 c, .int .i64 d] := (by have := Blk.new ((w4.alloc (.cells #[.int .i64 cA, .int .i64 cM] 23)).alloc (.cells #[.int .i64 cM, .int .i64 cB] 23)) 23 #[.int .i64 a, .int .i64 b, .int .i64 c, .int .i64 d]; rwa [World.size_alloc, World.size_alloc] at this); have p40 : ((w4.alloc (.cells #[.int .i64 cA, .int .i64 cM] 23)).alloc (.cells #[.int .i64 cM, .int .i64 cB] 23)).cell? ⟨w.heap.size, 0, none⟩ = some (.int .i64 a) := bA4.at_ rfl; have p41 : ((w4.alloc (.cells #[.int .i64 cA, .int .i64 cM] 23)).alloc (.cells #[.int .i64 cM, .int .i64 cB] 23)).cell? ⟨w.heap.size, 1, none⟩ = some (.int .i64 b) := bA4.at_ rfl; have q40 : ((w4.alloc (.cells #[.int .i64 cA, .int .i64 cM] 23)).alloc (.cells #[.int .i64 cM, .int .i64 cB] 23)).cell? ⟨w.heap.size + 1, 0, none⟩ = some (.int .i64 c) := bB4.at_ rfl; have q41 : ((w4.alloc (.cells #[.int .i64 cA, .int .i64 cM] 23)).alloc (.cells #[.int .i64 cM, .int .i64 cB] 23)).cell? ⟨w.heap.size + 1, 1, none⟩ = some (.int .i64 d) := bB4.at_ rfl) | (go_at_call 34; refine (all_calls a b c d _ _ bZ4).mono ?_; rintro e w5 ⟨n, v5, rfl, hn, O5⟩; obtain ⟨xs, own5, ints5, G5⟩ := O5; have HO := Lib.hid own5; have HI := Lib.hid ints5; clear own5 ints5; have z5 := Below.size G5; have rv5 : RV (w5.alloc (.cells #[.int .i64 x] 2)) (some ⟨w5.heap.size, 0, none⟩) [.int .i64 x] := RV.new w5 [.int .i64 x] 2 (0, 0)) | ((with_reducible show wpList _ _ _ (⟨some 43, _, _, _, _, _⟩ :: _) _ _); refine wpList_append_rv el_i64 rfl (.tmp 40) (.tmp 42) rfl _ _ n xs rfl (HO.out.alloc _) (some ⟨w5.heap.size, 0, none⟩) 1 1 [.int .i64 x] rfl rfl rv5 (one1 x) (by unfold maxLen; omega) (by omega) (by simp at z5 ⊢; omega) ?_; intro v6 w6 own6 gr6 hv6; have G6 := Below.grown (Gr.alloc G5 _) gr6 (by simp at z5 ⊢; omega) (fun k hk => (HO.out.lt k hk).1); have I6 := Lib.hid (ints1 x HI.out); obtain ⟨A6, k6, hvf, _, _⟩ := own_form own6; subst hvf; have R6 := RV.of_own own6; have L6 : (xs ++ [Value.int .i64 x]).length = n + 1 := (by have := own6.1; omega); have R6 := Lib.hid R6; have L6 := Lib.hid L6; clear own6 gr6 hv6 rv5))
  have bA6 := (bA4.below g5x bA4.lt).below G6 (bA4.below g5x bA4.lt).lt
  have bB6 := (bB4.below g5x bB4.lt).below G6 (bB4.below g5x bB4.lt).lt
  have bM6 := (bM4.below g5x bM4.lt).below G6 (bM4.below g5x bM4.lt).lt
  have bJ6 := (bJ4.below g5x bJ4.lt).below G6 (bJ4.below g5x bJ4.lt).lt
  have bX6 := (bX4.below g5x bX4.lt).below G6 (bX4.below g5x bX4.lt).lt
  have bY6 := (bY4.below g5x bY4.lt).below G6 (bY4.below g5x bY4.lt).lt
  have G7 : Gr w w6 := (G4.trans g5x).trans G6
  clear bA0 bB0 bA1 bB1 bA2 bB2 bM2 bA3 bB3 bM3 bJ3 bA4 bB4 bM4 bJ4 bX4 bY4 bZ4 p10 q10 p11 q11 p20 q20 p21 q21 p30 q30 p31 q31 p40 q40 p41 q41 G0 G1 G2 G3 G4 G5 G6 g1 g2 g3 g4 g2x g3x g4x g5x HM HJ HC S0 z5 HO HI
  go_loopw [45] (fun i wr => ∃ k : Nat, k ≤ n + 1 ∧ i = .int .i64 k ∧ Gr w6 wr) (fun i _ => n + 1 - (intOf i).toNat)
  case atStart => exact ⟨0, by omega, rfl, Gr.refl _⟩
  case round =>
    obtain ⟨k, hk, rfl, gr⟩ := hrel
    by_cases hlt : k < n + 1
    · obtain ⟨bb, off, p, rfl, hbb, hcp⟩ := out_at R6.out I6.out (show k < _ by rw [L6.out]; exact hlt)
      have cp := gr.cell hcp
      have hdec : decide ((k : Int) < ((n + 1 : Nat) : Int)) = true := by simp; omega
      have hdec' : decide ((k : Int) < (n : Int) + 1) = true := by simp; omega
      have bA7 := bA6.below gr bA6.lt
      have bB7 := bB6.below gr bB6.lt
      have bM7 := bM6.below gr bM6.lt
      have bJ7 := bJ6.below gr bJ6.lt
      have bX7 := bX6.below gr bX6.lt
      have bY7 := bY6.below gr bY6.lt
      go_wp2
      have yA0 := growc (bA7.at_ (i := 0) (v := .int .i64 a) rfl)
      have yA1 := growc (bA7.at_ (i := 1) (v := .int .i64 b) rfl)
      have yB0 := growc (bB7.at_ (i := 0) (v := .int .i64 c) rfl)
      have yB1 := growc (bB7.at_ (i := 1) (v := .int .i64 d) rfl)
      refine wp_region_grow (by kernel_rfl) (by kernel_rfl) ?_
      repeat (first | go_big_quiet_step (fail) | go_big_quiet_step (exact calls_grow (shas_calls _ _ _ _)))
      refine wpQuiet_nil ?_
      rintro w' ⟨r, rfl⟩
      have bA8 := bA7.below (grow_below wr r) bA7.lt
      have bB8 := bB7.below (grow_below wr r) bB7.lt
      have bM8 := bM7.below (grow_below wr r) bM7.lt
      have bJ8 := bJ7.below (grow_below wr r) bJ7.lt
      have bX8 := bX7.below (grow_below wr r) bX7.lt
      have bY8 := bY7.below (grow_below wr r) bY7.lt
      have gr8 : Gr w6 (grow wr r) := gr.trans (grow_below wr r)
      clear yA0 yA1 yB0 yB1 bA7 bB7 bM7 bJ7 bX7 bY7
      generalize grow wr r = w8 at *
      have xm := hm.out p
      have xj := hj.out p
      have xx := hx.out p
      have xy := hy.out p
      have hI := rfl (a := hasB a b p)
      generalize hasB a b p = I at *
      generalize hasB c d p = T at *
      cases I with
      | true =>
        simp only [Bool.true_and, Bool.false_and, Bool.true_or, Bool.false_or] at xm xx xy xj
        have c_xm : Hid (∀ w : World, Calls Tryd.prog 17 #[.agg #[.int .i64 mF, .int .i64 mT], .int .i64 p] w fun e w' => e = .returned (.bool (T)) ∧ Gr w w') := fun w => xm ▸ shas_calls mF mT p w
        have c_xj : Hid (∀ w : World, Calls Tryd.prog 17 #[.agg #[.int .i64 jF, .int .i64 jT], .int .i64 p] w fun e w' => e = .returned (.bool (true)) ∧ Gr w w') := fun w => xj ▸ shas_calls jF jT p w
        have c_xx : Hid (∀ w : World, Calls Tryd.prog 17 #[.agg #[.int .i64 cA, .int .i64 cM], .int .i64 p] w fun e w' => e = .returned (.bool (decide (p < x))) ∧ Gr w w') := fun w => xx ▸ shas_calls cA cM p w
        have c_xy : Hid (∀ w : World, Calls Tryd.prog 17 #[.agg #[.int .i64 cM, .int .i64 cB], .int .i64 p] w fun e w' => e = .returned (.bool (decide (x ≤ p))) ∧ Gr w w') := fun w => xy ▸ shas_calls cM cB p w
        clear xm
        clear xj
        clear xx xy hI
        have s80 := bM8.at_ (i := 0) (v := .int .i64 mF) rfl
        have s81 := bM8.at_ (i := 1) (v := .int .i64 mT) rfl
        go_wp2_with (first | (go_at_call 17; have _q := gq2; refine (c_xy.out _).mono ?_; rintro e v3 ⟨rfl, gq3⟩) | (go_at_call 17; have _q := gq1; refine (c_xx.out _).mono ?_; rintro e v2 ⟨rfl, gq2⟩; have dY2 := dY1.below gq2 dY1.lt; have t20 := dY2.at_ (i := 0) (v := .int .i64 cM) rfl; have t21 := dY2.at_ (i := 1) (v := .int .i64 cB) rfl) | (go_at_call 17; have _q := gq0; refine (c_xj.out _).mono ?_; rintro e v1 ⟨rfl, gq1⟩; have dX1 := dX0.below gq1 dX0.lt; have dY1 := dY0.below gq1 dY0.lt; have t10 := dX1.at_ (i := 0) (v := .int .i64 cA) rfl; have t11 := dX1.at_ (i := 1) (v := .int .i64 cM) rfl) | (go_at_call 17; refine (c_xm.out _).mono ?_; rintro e v0 ⟨rfl, gq0⟩; have dJ0 := bJ8.below gq0 bJ8.lt; have dX0 := bX8.below gq0 bX8.lt; have dY0 := bY8.below gq0 bY8.lt; have t00 := dJ0.at_ (i := 0) (v := .int .i64 jF) rfl; have t01 := dJ0.at_ (i := 1) (v := .int .i64 jT) rfl))
        go_roundw
        case rel => exact ⟨k + 1, by omega, by go_num, ((((gr8.trans gq0).trans gq1).trans gq2).trans gq3)⟩
        case measure => simp [intOf]; omega
      | false =>
        simp only [Bool.true_and, Bool.false_and, Bool.true_or, Bool.false_or] at xm xx xy xj
        have c_xm : Hid (∀ w : World, Calls Tryd.prog 17 #[.agg #[.int .i64 mF, .int .i64 mT], .int .i64 p] w fun e w' => e = .returned (.bool (false)) ∧ Gr w w') := fun w => xm ▸ shas_calls mF mT p w
        have c_xj : Hid (∀ w : World, Calls Tryd.prog 17 #[.agg #[.int .i64 jF, .int .i64 jT], .int .i64 p] w fun e w' => e = .returned (.bool (T)) ∧ Gr w w') := fun w => xj ▸ shas_calls jF jT p w
        have c_xx : Hid (∀ w : World, Calls Tryd.prog 17 #[.agg #[.int .i64 cA, .int .i64 cM], .int .i64 p] w fun e w' => e = .returned (.bool (false)) ∧ Gr w w') := fun w => xx ▸ shas_calls cA cM p w
        have c_xy : Hid (∀ w : World, Calls Tryd.prog 17 #[.agg #[.int .i64 cM, .int .i64 cB], .int .i64 p] w fun e w' => e = .returned (.bool (false)) ∧ Gr w w') := fun w => xy ▸ shas_calls cM cB p w
        clear xm
        clear xj
        clear xx xy hI
        have s80 := bM8.at_ (i := 0) (v := .int .i64 mF) rfl
        have s81 := bM8.at_ (i := 1) (v := .int .i64 mT) rfl
        go_wp2_with (first | (go_at_call 17; have _q := gq2; refine (c_xy.out _).mono ?_; rintro e v3 ⟨rfl, gq3⟩) | (go_at_call 17; have _q := gq1; refine (c_xx.out _).mono ?_; rintro e v2 ⟨rfl, gq2⟩; have dY2 := dY1.below gq2 dY1.lt; have t20 := dY2.at_ (i := 0) (v := .int .i64 cM) rfl; have t21 := dY2.at_ (i := 1) (v := .int .i64 cB) rfl) | (go_at_call 17; have _q := gq0; refine (c_xj.out _).mono ?_; rintro e v1 ⟨rfl, gq1⟩; have dX1 := dX0.below gq1 dX0.lt; have dY1 := dY0.below gq1 dY0.lt; have t10 := dX1.at_ (i := 0) (v := .int .i64 cA) rfl; have t11 := dX1.at_ (i := 1) (v := .int .i64 cM) rfl) | (go_at_call 17; refine (c_xm.out _).mono ?_; rintro e v0 ⟨rfl, gq0⟩; have dJ0 := bJ8.below gq0 bJ8.lt; have dX0 := bX8.below gq0 bX8.lt; have dY0 := bY8.below gq0 bY8.lt; have t00 := dJ0.at_ (i := 0) (v := .int .i64 jF) rfl; have t01 := dJ0.at_ (i := 1) (v := .int .i64 jT) rfl))
        go_roundw
        case rel => exact ⟨k + 1, by omega, by go_num, ((((gr8.trans gq0).trans gq1).trans gq2).trans gq3)⟩
        case measure => simp [intOf]; omega
    · obtain rfl : k = n + 1 := by omega
      go_wp2
      go_ret
      exact ⟨rfl, G7.trans gr⟩
set_option maxHeartbeats 6400000 in
set_option maxRecDepth 100000 in
theorem spanBytes_tf (a b c d x mF mT jF jT cA cM cB : Int)
    (HM : Hid (∀ w : World, Calls Tryd.prog 19 #[.agg #[.int .i64 a, .int .i64 b], .agg #[.int .i64 c, .int .i64 d]] w fun e w' => e = .returned (.tuple #[.agg #[.int .i64 mF, .int .i64 mT], .bool true]) ∧ Gr w w'))
    (HJ : Hid (∀ w : World, Calls Tryd.prog 23 #[.agg #[.int .i64 a, .int .i64 b], .agg #[.int .i64 c, .int .i64 d]] w fun e w' => e = .returned (.tuple #[.agg #[.int .i64 jF, .int .i64 jT], .bool false]) ∧ Gr w w'))
    (HC : Hid (∀ w : World, Calls Tryd.prog 26 #[.agg #[.int .i64 a, .int .i64 b], .int .i64 x] w fun e w' => e = .returned (.tuple #[.agg #[.int .i64 cA, .int .i64 cM], .agg #[.int .i64 cM, .int .i64 cB]]) ∧ Gr w w'))
    (hm : Hid (∀ p, hasB mF mT p = (hasB a b p && hasB c d p)))
    (hx : Hid (∀ p, hasB cA cM p = (hasB a b p && decide (p < x)))) (hy : Hid (∀ p, hasB cM cB p = (hasB a b p && decide (x ≤ p))))
    (w : World) (hS : Std w) : Calls Tryd.prog 10 #[.agg #[.int .i64 a, .int .i64 b], .agg #[.int .i64 c, .int .i64 d], .int .i64 x] w fun e w' => e = .returned (.bool true) ∧ Gr w w' := by
  have bA0 := (Blk.new w 23 #[.int .i64 a, .int .i64 b]).alloc (.cells #[.int .i64 c, .int .i64 d] 23)
  have bB0 := Blk.new (w.alloc (.cells #[.int .i64 a, .int .i64 b] 23)) 23 #[.int .i64 c, .int .i64 d]
  rw [World.size_alloc] at bB0
  have G0 : Gr w ((w.alloc (.cells #[.int .i64 a, .int .i64 b] 23)).alloc (.cells #[.int .i64 c, .int .i64 d] 23)) := ((Gr.refl w).alloc _).alloc _
  have S0 := hS.gr G0
  go_enter Tryd.func10, Tryd.ntmps10
  go_wp2_with (first | (go_at_call 12; refine (awake_calls _ S0).mono ?_; rintro e w1 ⟨rfl, g1⟩; have G1 := G0.trans g1; have bA1 := bA0.below g1 bA0.lt; have bB1 := bB0.below g1 bB0.lt; have p10 : w1.cell? ⟨w.heap.size, 0, none⟩ = some (.int .i64 a) := bA1.at_ rfl; have p11 : w1.cell? ⟨w.heap.size, 1, none⟩ = some (.int .i64 b) := bA1.at_ rfl; have q10 : w1.cell? ⟨w.heap.size + 1, 0, none⟩ = some (.int .i64 c) := bB1.at_ rfl; have q11 : w1.cell? ⟨w.heap.size + 1, 1, none⟩ = some (.int .i64 d) := bB1.at_ rfl) | (go_at_call 19; refine (HM.out _).mono ?_; rintro e w2 ⟨rfl, g2⟩; have g2x : Gr w1 (w2.alloc (.cells #[.int .i64 mF, .int .i64 mT] 23)) := Gr.alloc g2 _; have G2 := G1.trans g2x; have bA2 := bA1.below g2x bA1.lt; have bB2 := bB1.below g2x bB1.lt; have bM2 := Blk.new w2 23 #[.int .i64 mF, .int .i64 mT]; have p20 : (w2.alloc (.cells #[.int .i64 mF, .int .i64 mT] 23)).cell? ⟨w.heap.size, 0, none⟩ = some (.int .i64 a) := bA2.at_ rfl; have p21 : (w2.alloc (.cells #[.int .i64 mF, .int .i64 mT] 23)).cell? ⟨w.heap.size, 1, none⟩ = some (.int .i64 b) := bA2.at_ rfl; have q20 : (w2.alloc (.cells #[.int .i64 mF, .int .i64 mT] 23)).cell? ⟨w.heap.size + 1, 0, none⟩ = some (.int .i64 c) := bB2.at_ rfl; have q21 : (w2.alloc (.cells #[.int .i64 mF, .int .i64 mT] 23)).cell? ⟨w.heap.size + 1, 1, none⟩ = some (.int .i64 d) := bB2.at_ rfl) | (go_at_call 23; refine (HJ.out _).mono ?_; rintro e w3 ⟨rfl, g3⟩; have g3x : Gr (w2.alloc (.cells #[.int .i64 mF, .int .i64 mT] 23)) (w3.alloc (.cells #[.int .i64 jF, .int .i64 jT] 23)) := Gr.alloc g3 _; have G3 := G2.trans g3x; have bA3 := bA2.below g3x bA2.lt; have bB3 := bB2.below g3x bB2.lt; have bM3 := bM2.below g3x bM2.lt; have bJ3 := Blk.new w3 23 #[.int .i64 jF, .int .i64 jT]; have p30 : (w3.alloc (.cells #[.int .i64 jF, .int .i64 jT] 23)).cell? ⟨w.heap.size, 0, none⟩ = some (.int .i64 a) := bA3.at_ rfl; have p31 : (w3.alloc (.cells #[.int .i64 jF, .int .i64 jT] 23)).cell? ⟨w.heap.size, 1, none⟩ = some (.int .i64 b) := bA3.at_ rfl; have q30 : (w3.alloc (.cells #[.int .i64 jF, .int .i64 jT] 23)).cell? ⟨w.heap.size + 1, 0, none⟩ = some (.int .i64 c) := bB3.at_ rfl; have q31 : (w3.alloc (.cells #[.int .i64 jF, .int .i64 jT] 23)).cell? ⟨w.heap.size + 1, 1, none⟩ = some (.int .i64 d) := bB3.at_ rfl) | (go_at_call 26; refine (HC.out _).mono ?_; rintro e w4 ⟨rfl, g4⟩; have g4x : Gr (w3.alloc (.cells #[.int .i64 jF, .int .i64 jT] 23)) ((w4.alloc (.cells #[.int .i64 cA, .int .i64 cM] 23)).alloc (.cells #[.int .i64 cM, .int .i64 cB] 23)) := Gr.alloc (Gr.alloc g4 _) _; have G4 := G3.trans g4x; have bA4 := bA3.below g4x bA3.lt; have bB4 := bB3.below g4x bB3.lt; have bM4 := bM3.below g4x bM3.lt; have bJ4 := bJ3.below g4x bJ3.lt; have bX4 := (Blk.new w4 23 #[.int .i64 cA, .int .i64 cM]).alloc (.cells #[.int .i64 cM, .int .i64 cB] 23); have bY4 : Blk ((w4.alloc (.cells #[.int .i64 cA, .int .i64 cM] 23)).alloc (.cells #[.int .i64 cM, .int .i64 cB] 23)) (w4.heap.size + 1) 23 #[.int .i64 cM, .int .i64 cB] := (by have := Blk.new (w4.alloc (.cells #[.int .i64 cA, .int .i64 cM] 23)) 23 #[.int .i64 cM, .int .i64 cB]; rwa [World.size_alloc] at this); have g5x : Gr ((w4.alloc (.cells #[.int .i64 cA, .int .i64 cM] 23)).alloc (.cells #[.int .i64 cM, .int .i64 cB] 23)) (((w4.alloc (.cells #[.int .i64 cA, .int .i64 cM] 23)).alloc (.cells #[.int .i64 cM, .int .i64 cB] 23)).alloc (.cells #[.int .i64 a, .int .i64 b, .int .i64 c, .int .i64 d] 23)) := Gr.alloc (Gr.refl _) _; have bZ4 : Blk (((w4.alloc (.cells #[.int .i64 cA, .int .i64 cM] 23)).alloc (.cells #[.int .i64 cM, .int .i64 cB] 23)).alloc (.cells #[.int .i64 a, .int .i64 b, .int .i64 c, .int .i64 d] 23)) (w4.heap.size + 1 + 1) 23 #[.int .i64 a, .int .i64 b, .int .i64 c, .int .i64 d] := (by have := Blk.new ((w4.alloc (.cells #[.int .i64 cA, .int .i64 cM] 23)).alloc (.cells #[.int .i64 cM, .int .i64 cB] 23)) 23 #[.int .i64 a, .int .i64 b, .int .i64 c, .int .i64 d]; rwa [World.size_alloc, World.size_alloc] at this); have p40 : ((w4.alloc (.cells #[.int .i64 cA, .int .i64 cM] 23)).alloc (.cells #[.int .i64 cM, .int .i64 cB] 23)).cell? ⟨w.heap.size, 0, none⟩ = some (.int .i64 a) := bA4.at_ rfl; have p41 : ((w4.alloc (.cells #[.int .i64 cA, .int .i64 cM] 23)).alloc (.cells #[.int .i64 cM, .int .i64 cB] 23)).cell? ⟨w.heap.size, 1, none⟩ = some (.int .i64 b) := bA4.at_ rfl; have q40 : ((w4.alloc (.cells #[.int .i64 cA, .int .i64 cM] 23)).alloc (.cells #[.int .i64 cM, .int .i64 cB] 23)).cell? ⟨w.heap.size + 1, 0, none⟩ = some (.int .i64 c) := bB4.at_ rfl; have q41 : ((w4.alloc (.cells #[.int .i64 cA, .int .i64 cM] 23)).alloc (.cells #[.int .i64 cM, .int .i64 cB] 23)).cell? ⟨w.heap.size + 1, 1, none⟩ = some (.int .i64 d) := bB4.at_ rfl) | (go_at_call 34; refine (all_calls a b c d _ _ bZ4).mono ?_; rintro e w5 ⟨n, v5, rfl, hn, O5⟩; obtain ⟨xs, own5, ints5, G5⟩ := O5; have HO := Lib.hid own5; have HI := Lib.hid ints5; clear own5 ints5; have z5 := Below.size G5; have rv5 : RV (w5.alloc (.cells #[.int .i64 x] 2)) (some ⟨w5.heap.size, 0, none⟩) [.int .i64 x] := RV.new w5 [.int .i64 x] 2 (0, 0)) | ((with_reducible show wpList _ _ _ (⟨some 43, _, _, _, _, _⟩ :: _) _ _); refine wpList_append_rv el_i64 rfl (.tmp 40) (.tmp 42) rfl _ _ n xs rfl (HO.out.alloc _) (some ⟨w5.heap.size, 0, none⟩) 1 1 [.int .i64 x] rfl rfl rv5 (one1 x) (by unfold maxLen; omega) (by omega) (by simp at z5 ⊢; omega) ?_; intro v6 w6 own6 gr6 hv6; have G6 := Below.grown (Gr.alloc G5 _) gr6 (by simp at z5 ⊢; omega) (fun k hk => (HO.out.lt k hk).1); have I6 := Lib.hid (ints1 x HI.out); obtain ⟨A6, k6, hvf, _, _⟩ := own_form own6; subst hvf; have R6 := RV.of_own own6; have L6 : (xs ++ [Value.int .i64 x]).length = n + 1 := (by have := own6.1; omega); have R6 := Lib.hid R6; have L6 := Lib.hid L6; clear own6 gr6 hv6 rv5))
  have bA6 := (bA4.below g5x bA4.lt).below G6 (bA4.below g5x bA4.lt).lt
  have bB6 := (bB4.below g5x bB4.lt).below G6 (bB4.below g5x bB4.lt).lt
  have bM6 := (bM4.below g5x bM4.lt).below G6 (bM4.below g5x bM4.lt).lt
  have bJ6 := (bJ4.below g5x bJ4.lt).below G6 (bJ4.below g5x bJ4.lt).lt
  have bX6 := (bX4.below g5x bX4.lt).below G6 (bX4.below g5x bX4.lt).lt
  have bY6 := (bY4.below g5x bY4.lt).below G6 (bY4.below g5x bY4.lt).lt
  have G7 : Gr w w6 := (G4.trans g5x).trans G6
  clear bA0 bB0 bA1 bB1 bA2 bB2 bM2 bA3 bB3 bM3 bJ3 bA4 bB4 bM4 bJ4 bX4 bY4 bZ4 p10 q10 p11 q11 p20 q20 p21 q21 p30 q30 p31 q31 p40 q40 p41 q41 G0 G1 G2 G3 G4 G5 G6 g1 g2 g3 g4 g2x g3x g4x g5x HM HJ HC S0 z5 HO HI
  go_loopw [45] (fun i wr => ∃ k : Nat, k ≤ n + 1 ∧ i = .int .i64 k ∧ Gr w6 wr) (fun i _ => n + 1 - (intOf i).toNat)
  case atStart => exact ⟨0, by omega, rfl, Gr.refl _⟩
  case round =>
    obtain ⟨k, hk, rfl, gr⟩ := hrel
    by_cases hlt : k < n + 1
    · obtain ⟨bb, off, p, rfl, hbb, hcp⟩ := out_at R6.out I6.out (show k < _ by rw [L6.out]; exact hlt)
      have cp := gr.cell hcp
      have hdec : decide ((k : Int) < ((n + 1 : Nat) : Int)) = true := by simp; omega
      have hdec' : decide ((k : Int) < (n : Int) + 1) = true := by simp; omega
      have bA7 := bA6.below gr bA6.lt
      have bB7 := bB6.below gr bB6.lt
      have bM7 := bM6.below gr bM6.lt
      have bJ7 := bJ6.below gr bJ6.lt
      have bX7 := bX6.below gr bX6.lt
      have bY7 := bY6.below gr bY6.lt
      go_wp2
      have yA0 := growc (bA7.at_ (i := 0) (v := .int .i64 a) rfl)
      have yA1 := growc (bA7.at_ (i := 1) (v := .int .i64 b) rfl)
      have yB0 := growc (bB7.at_ (i := 0) (v := .int .i64 c) rfl)
      have yB1 := growc (bB7.at_ (i := 1) (v := .int .i64 d) rfl)
      refine wp_region_grow (by kernel_rfl) (by kernel_rfl) ?_
      repeat (first | go_big_quiet_step (fail) | go_big_quiet_step (exact calls_grow (shas_calls _ _ _ _)))
      refine wpQuiet_nil ?_
      rintro w' ⟨r, rfl⟩
      have bA8 := bA7.below (grow_below wr r) bA7.lt
      have bB8 := bB7.below (grow_below wr r) bB7.lt
      have bM8 := bM7.below (grow_below wr r) bM7.lt
      have bJ8 := bJ7.below (grow_below wr r) bJ7.lt
      have bX8 := bX7.below (grow_below wr r) bX7.lt
      have bY8 := bY7.below (grow_below wr r) bY7.lt
      have gr8 : Gr w6 (grow wr r) := gr.trans (grow_below wr r)
      clear yA0 yA1 yB0 yB1 bA7 bB7 bM7 bJ7 bX7 bY7
      generalize grow wr r = w8 at *
      have xm := hm.out p
      have xx := hx.out p
      have xy := hy.out p
      have hI := rfl (a := hasB a b p)
      generalize hasB a b p = I at *
      generalize hasB c d p = T at *
      cases I with
      | true =>
        simp only [Bool.true_and, Bool.false_and, Bool.true_or, Bool.false_or] at xm xx xy
        have c_xm : Hid (∀ w : World, Calls Tryd.prog 17 #[.agg #[.int .i64 mF, .int .i64 mT], .int .i64 p] w fun e w' => e = .returned (.bool (T)) ∧ Gr w w') := fun w => xm ▸ shas_calls mF mT p w
        have c_xx : Hid (∀ w : World, Calls Tryd.prog 17 #[.agg #[.int .i64 cA, .int .i64 cM], .int .i64 p] w fun e w' => e = .returned (.bool (decide (p < x))) ∧ Gr w w') := fun w => xx ▸ shas_calls cA cM p w
        have c_xy : Hid (∀ w : World, Calls Tryd.prog 17 #[.agg #[.int .i64 cM, .int .i64 cB], .int .i64 p] w fun e w' => e = .returned (.bool (decide (x ≤ p))) ∧ Gr w w') := fun w => xy ▸ shas_calls cM cB p w
        clear xm
        clear xx xy hI
        have s80 := bM8.at_ (i := 0) (v := .int .i64 mF) rfl
        have s81 := bM8.at_ (i := 1) (v := .int .i64 mT) rfl
        go_wp2_with (first | (go_at_call 17; have _q := gq1; refine (c_xy.out _).mono ?_; rintro e v2 ⟨rfl, gq2⟩) | (go_at_call 17; have _q := gq0; refine (c_xx.out _).mono ?_; rintro e v1 ⟨rfl, gq1⟩; have dY1 := dY0.below gq1 dY0.lt; have t10 := dY1.at_ (i := 0) (v := .int .i64 cM) rfl; have t11 := dY1.at_ (i := 1) (v := .int .i64 cB) rfl) | (go_at_call 17; refine (c_xm.out _).mono ?_; rintro e v0 ⟨rfl, gq0⟩; have dX0 := bX8.below gq0 bX8.lt; have dY0 := bY8.below gq0 bY8.lt; have t00 := dX0.at_ (i := 0) (v := .int .i64 cA) rfl; have t01 := dX0.at_ (i := 1) (v := .int .i64 cM) rfl))
        go_roundw
        case rel => exact ⟨k + 1, by omega, by go_num, (((gr8.trans gq0).trans gq1).trans gq2)⟩
        case measure => simp [intOf]; omega
      | false =>
        simp only [Bool.true_and, Bool.false_and, Bool.true_or, Bool.false_or] at xm xx xy
        have c_xm : Hid (∀ w : World, Calls Tryd.prog 17 #[.agg #[.int .i64 mF, .int .i64 mT], .int .i64 p] w fun e w' => e = .returned (.bool (false)) ∧ Gr w w') := fun w => xm ▸ shas_calls mF mT p w
        have c_xx : Hid (∀ w : World, Calls Tryd.prog 17 #[.agg #[.int .i64 cA, .int .i64 cM], .int .i64 p] w fun e w' => e = .returned (.bool (false)) ∧ Gr w w') := fun w => xx ▸ shas_calls cA cM p w
        have c_xy : Hid (∀ w : World, Calls Tryd.prog 17 #[.agg #[.int .i64 cM, .int .i64 cB], .int .i64 p] w fun e w' => e = .returned (.bool (false)) ∧ Gr w w') := fun w => xy ▸ shas_calls cM cB p w
        clear xm
        clear xx xy hI
        have s80 := bM8.at_ (i := 0) (v := .int .i64 mF) rfl
        have s81 := bM8.at_ (i := 1) (v := .int .i64 mT) rfl
        go_wp2_with (first | (go_at_call 17; have _q := gq1; refine (c_xy.out _).mono ?_; rintro e v2 ⟨rfl, gq2⟩) | (go_at_call 17; have _q := gq0; refine (c_xx.out _).mono ?_; rintro e v1 ⟨rfl, gq1⟩; have dY1 := dY0.below gq1 dY0.lt; have t10 := dY1.at_ (i := 0) (v := .int .i64 cM) rfl; have t11 := dY1.at_ (i := 1) (v := .int .i64 cB) rfl) | (go_at_call 17; refine (c_xm.out _).mono ?_; rintro e v0 ⟨rfl, gq0⟩; have dX0 := bX8.below gq0 bX8.lt; have dY0 := bY8.below gq0 bY8.lt; have t00 := dX0.at_ (i := 0) (v := .int .i64 cA) rfl; have t01 := dX0.at_ (i := 1) (v := .int .i64 cM) rfl))
        go_roundw
        case rel => exact ⟨k + 1, by omega, by go_num, (((gr8.trans gq0).trans gq1).trans gq2)⟩
        case measure => simp [intOf]; omega
    · obtain rfl : k = n + 1 := by omega
      go_wp2
      go_ret
      exact ⟨rfl, G7.trans gr⟩
set_option maxHeartbeats 6400000 in
set_option maxRecDepth 100000 in
theorem spanBytes_ft (a b c d x mF mT jF jT cA cM cB : Int)
    (HM : Hid (∀ w : World, Calls Tryd.prog 19 #[.agg #[.int .i64 a, .int .i64 b], .agg #[.int .i64 c, .int .i64 d]] w fun e w' => e = .returned (.tuple #[.agg #[.int .i64 mF, .int .i64 mT], .bool false]) ∧ Gr w w'))
    (HJ : Hid (∀ w : World, Calls Tryd.prog 23 #[.agg #[.int .i64 a, .int .i64 b], .agg #[.int .i64 c, .int .i64 d]] w fun e w' => e = .returned (.tuple #[.agg #[.int .i64 jF, .int .i64 jT], .bool true]) ∧ Gr w w'))
    (HC : Hid (∀ w : World, Calls Tryd.prog 26 #[.agg #[.int .i64 a, .int .i64 b], .int .i64 x] w fun e w' => e = .returned (.tuple #[.agg #[.int .i64 cA, .int .i64 cM], .agg #[.int .i64 cM, .int .i64 cB]]) ∧ Gr w w'))
    (hm : Hid (∀ p, false = (hasB a b p && hasB c d p)))
    (hj : Hid (∀ p, hasB jF jT p = (hasB a b p || hasB c d p)))
    (hx : Hid (∀ p, hasB cA cM p = (hasB a b p && decide (p < x)))) (hy : Hid (∀ p, hasB cM cB p = (hasB a b p && decide (x ≤ p))))
    (w : World) (hS : Std w) : Calls Tryd.prog 10 #[.agg #[.int .i64 a, .int .i64 b], .agg #[.int .i64 c, .int .i64 d], .int .i64 x] w fun e w' => e = .returned (.bool true) ∧ Gr w w' := by
  have bA0 := (Blk.new w 23 #[.int .i64 a, .int .i64 b]).alloc (.cells #[.int .i64 c, .int .i64 d] 23)
  have bB0 := Blk.new (w.alloc (.cells #[.int .i64 a, .int .i64 b] 23)) 23 #[.int .i64 c, .int .i64 d]
  rw [World.size_alloc] at bB0
  have G0 : Gr w ((w.alloc (.cells #[.int .i64 a, .int .i64 b] 23)).alloc (.cells #[.int .i64 c, .int .i64 d] 23)) := ((Gr.refl w).alloc _).alloc _
  have S0 := hS.gr G0
  go_enter Tryd.func10, Tryd.ntmps10
  go_wp2_with (first | (go_at_call 12; refine (awake_calls _ S0).mono ?_; rintro e w1 ⟨rfl, g1⟩; have G1 := G0.trans g1; have bA1 := bA0.below g1 bA0.lt; have bB1 := bB0.below g1 bB0.lt; have p10 : w1.cell? ⟨w.heap.size, 0, none⟩ = some (.int .i64 a) := bA1.at_ rfl; have p11 : w1.cell? ⟨w.heap.size, 1, none⟩ = some (.int .i64 b) := bA1.at_ rfl; have q10 : w1.cell? ⟨w.heap.size + 1, 0, none⟩ = some (.int .i64 c) := bB1.at_ rfl; have q11 : w1.cell? ⟨w.heap.size + 1, 1, none⟩ = some (.int .i64 d) := bB1.at_ rfl) | (go_at_call 19; refine (HM.out _).mono ?_; rintro e w2 ⟨rfl, g2⟩; have g2x : Gr w1 (w2.alloc (.cells #[.int .i64 mF, .int .i64 mT] 23)) := Gr.alloc g2 _; have G2 := G1.trans g2x; have bA2 := bA1.below g2x bA1.lt; have bB2 := bB1.below g2x bB1.lt; have bM2 := Blk.new w2 23 #[.int .i64 mF, .int .i64 mT]; have p20 : (w2.alloc (.cells #[.int .i64 mF, .int .i64 mT] 23)).cell? ⟨w.heap.size, 0, none⟩ = some (.int .i64 a) := bA2.at_ rfl; have p21 : (w2.alloc (.cells #[.int .i64 mF, .int .i64 mT] 23)).cell? ⟨w.heap.size, 1, none⟩ = some (.int .i64 b) := bA2.at_ rfl; have q20 : (w2.alloc (.cells #[.int .i64 mF, .int .i64 mT] 23)).cell? ⟨w.heap.size + 1, 0, none⟩ = some (.int .i64 c) := bB2.at_ rfl; have q21 : (w2.alloc (.cells #[.int .i64 mF, .int .i64 mT] 23)).cell? ⟨w.heap.size + 1, 1, none⟩ = some (.int .i64 d) := bB2.at_ rfl) | (go_at_call 23; refine (HJ.out _).mono ?_; rintro e w3 ⟨rfl, g3⟩; have g3x : Gr (w2.alloc (.cells #[.int .i64 mF, .int .i64 mT] 23)) (w3.alloc (.cells #[.int .i64 jF, .int .i64 jT] 23)) := Gr.alloc g3 _; have G3 := G2.trans g3x; have bA3 := bA2.below g3x bA2.lt; have bB3 := bB2.below g3x bB2.lt; have bM3 := bM2.below g3x bM2.lt; have bJ3 := Blk.new w3 23 #[.int .i64 jF, .int .i64 jT]; have p30 : (w3.alloc (.cells #[.int .i64 jF, .int .i64 jT] 23)).cell? ⟨w.heap.size, 0, none⟩ = some (.int .i64 a) := bA3.at_ rfl; have p31 : (w3.alloc (.cells #[.int .i64 jF, .int .i64 jT] 23)).cell? ⟨w.heap.size, 1, none⟩ = some (.int .i64 b) := bA3.at_ rfl; have q30 : (w3.alloc (.cells #[.int .i64 jF, .int .i64 jT] 23)).cell? ⟨w.heap.size + 1, 0, none⟩ = some (.int .i64 c) := bB3.at_ rfl; have q31 : (w3.alloc (.cells #[.int .i64 jF, .int .i64 jT] 23)).cell? ⟨w.heap.size + 1, 1, none⟩ = some (.int .i64 d) := bB3.at_ rfl) | (go_at_call 26; refine (HC.out _).mono ?_; rintro e w4 ⟨rfl, g4⟩; have g4x : Gr (w3.alloc (.cells #[.int .i64 jF, .int .i64 jT] 23)) ((w4.alloc (.cells #[.int .i64 cA, .int .i64 cM] 23)).alloc (.cells #[.int .i64 cM, .int .i64 cB] 23)) := Gr.alloc (Gr.alloc g4 _) _; have G4 := G3.trans g4x; have bA4 := bA3.below g4x bA3.lt; have bB4 := bB3.below g4x bB3.lt; have bM4 := bM3.below g4x bM3.lt; have bJ4 := bJ3.below g4x bJ3.lt; have bX4 := (Blk.new w4 23 #[.int .i64 cA, .int .i64 cM]).alloc (.cells #[.int .i64 cM, .int .i64 cB] 23); have bY4 : Blk ((w4.alloc (.cells #[.int .i64 cA, .int .i64 cM] 23)).alloc (.cells #[.int .i64 cM, .int .i64 cB] 23)) (w4.heap.size + 1) 23 #[.int .i64 cM, .int .i64 cB] := (by have := Blk.new (w4.alloc (.cells #[.int .i64 cA, .int .i64 cM] 23)) 23 #[.int .i64 cM, .int .i64 cB]; rwa [World.size_alloc] at this); have g5x : Gr ((w4.alloc (.cells #[.int .i64 cA, .int .i64 cM] 23)).alloc (.cells #[.int .i64 cM, .int .i64 cB] 23)) (((w4.alloc (.cells #[.int .i64 cA, .int .i64 cM] 23)).alloc (.cells #[.int .i64 cM, .int .i64 cB] 23)).alloc (.cells #[.int .i64 a, .int .i64 b, .int .i64 c, .int .i64 d] 23)) := Gr.alloc (Gr.refl _) _; have bZ4 : Blk (((w4.alloc (.cells #[.int .i64 cA, .int .i64 cM] 23)).alloc (.cells #[.int .i64 cM, .int .i64 cB] 23)).alloc (.cells #[.int .i64 a, .int .i64 b, .int .i64 c, .int .i64 d] 23)) (w4.heap.size + 1 + 1) 23 #[.int .i64 a, .int .i64 b, .int .i64 c, .int .i64 d] := (by have := Blk.new ((w4.alloc (.cells #[.int .i64 cA, .int .i64 cM] 23)).alloc (.cells #[.int .i64 cM, .int .i64 cB] 23)) 23 #[.int .i64 a, .int .i64 b, .int .i64 c, .int .i64 d]; rwa [World.size_alloc, World.size_alloc] at this); have p40 : ((w4.alloc (.cells #[.int .i64 cA, .int .i64 cM] 23)).alloc (.cells #[.int .i64 cM, .int .i64 cB] 23)).cell? ⟨w.heap.size, 0, none⟩ = some (.int .i64 a) := bA4.at_ rfl; have p41 : ((w4.alloc (.cells #[.int .i64 cA, .int .i64 cM] 23)).alloc (.cells #[.int .i64 cM, .int .i64 cB] 23)).cell? ⟨w.heap.size, 1, none⟩ = some (.int .i64 b) := bA4.at_ rfl; have q40 : ((w4.alloc (.cells #[.int .i64 cA, .int .i64 cM] 23)).alloc (.cells #[.int .i64 cM, .int .i64 cB] 23)).cell? ⟨w.heap.size + 1, 0, none⟩ = some (.int .i64 c) := bB4.at_ rfl; have q41 : ((w4.alloc (.cells #[.int .i64 cA, .int .i64 cM] 23)).alloc (.cells #[.int .i64 cM, .int .i64 cB] 23)).cell? ⟨w.heap.size + 1, 1, none⟩ = some (.int .i64 d) := bB4.at_ rfl) | (go_at_call 34; refine (all_calls a b c d _ _ bZ4).mono ?_; rintro e w5 ⟨n, v5, rfl, hn, O5⟩; obtain ⟨xs, own5, ints5, G5⟩ := O5; have HO := Lib.hid own5; have HI := Lib.hid ints5; clear own5 ints5; have z5 := Below.size G5; have rv5 : RV (w5.alloc (.cells #[.int .i64 x] 2)) (some ⟨w5.heap.size, 0, none⟩) [.int .i64 x] := RV.new w5 [.int .i64 x] 2 (0, 0)) | ((with_reducible show wpList _ _ _ (⟨some 43, _, _, _, _, _⟩ :: _) _ _); refine wpList_append_rv el_i64 rfl (.tmp 40) (.tmp 42) rfl _ _ n xs rfl (HO.out.alloc _) (some ⟨w5.heap.size, 0, none⟩) 1 1 [.int .i64 x] rfl rfl rv5 (one1 x) (by unfold maxLen; omega) (by omega) (by simp at z5 ⊢; omega) ?_; intro v6 w6 own6 gr6 hv6; have G6 := Below.grown (Gr.alloc G5 _) gr6 (by simp at z5 ⊢; omega) (fun k hk => (HO.out.lt k hk).1); have I6 := Lib.hid (ints1 x HI.out); obtain ⟨A6, k6, hvf, _, _⟩ := own_form own6; subst hvf; have R6 := RV.of_own own6; have L6 : (xs ++ [Value.int .i64 x]).length = n + 1 := (by have := own6.1; omega); have R6 := Lib.hid R6; have L6 := Lib.hid L6; clear own6 gr6 hv6 rv5))
  have bA6 := (bA4.below g5x bA4.lt).below G6 (bA4.below g5x bA4.lt).lt
  have bB6 := (bB4.below g5x bB4.lt).below G6 (bB4.below g5x bB4.lt).lt
  have bM6 := (bM4.below g5x bM4.lt).below G6 (bM4.below g5x bM4.lt).lt
  have bJ6 := (bJ4.below g5x bJ4.lt).below G6 (bJ4.below g5x bJ4.lt).lt
  have bX6 := (bX4.below g5x bX4.lt).below G6 (bX4.below g5x bX4.lt).lt
  have bY6 := (bY4.below g5x bY4.lt).below G6 (bY4.below g5x bY4.lt).lt
  have G7 : Gr w w6 := (G4.trans g5x).trans G6
  clear bA0 bB0 bA1 bB1 bA2 bB2 bM2 bA3 bB3 bM3 bJ3 bA4 bB4 bM4 bJ4 bX4 bY4 bZ4 p10 q10 p11 q11 p20 q20 p21 q21 p30 q30 p31 q31 p40 q40 p41 q41 G0 G1 G2 G3 G4 G5 G6 g1 g2 g3 g4 g2x g3x g4x g5x HM HJ HC S0 z5 HO HI
  go_loopw [45] (fun i wr => ∃ k : Nat, k ≤ n + 1 ∧ i = .int .i64 k ∧ Gr w6 wr) (fun i _ => n + 1 - (intOf i).toNat)
  case atStart => exact ⟨0, by omega, rfl, Gr.refl _⟩
  case round =>
    obtain ⟨k, hk, rfl, gr⟩ := hrel
    by_cases hlt : k < n + 1
    · obtain ⟨bb, off, p, rfl, hbb, hcp⟩ := out_at R6.out I6.out (show k < _ by rw [L6.out]; exact hlt)
      have cp := gr.cell hcp
      have hdec : decide ((k : Int) < ((n + 1 : Nat) : Int)) = true := by simp; omega
      have hdec' : decide ((k : Int) < (n : Int) + 1) = true := by simp; omega
      have bA7 := bA6.below gr bA6.lt
      have bB7 := bB6.below gr bB6.lt
      have bM7 := bM6.below gr bM6.lt
      have bJ7 := bJ6.below gr bJ6.lt
      have bX7 := bX6.below gr bX6.lt
      have bY7 := bY6.below gr bY6.lt
      go_wp2
      have yA0 := growc (bA7.at_ (i := 0) (v := .int .i64 a) rfl)
      have yA1 := growc (bA7.at_ (i := 1) (v := .int .i64 b) rfl)
      have yB0 := growc (bB7.at_ (i := 0) (v := .int .i64 c) rfl)
      have yB1 := growc (bB7.at_ (i := 1) (v := .int .i64 d) rfl)
      refine wp_region_grow (by kernel_rfl) (by kernel_rfl) ?_
      repeat (first | go_big_quiet_step (fail) | go_big_quiet_step (exact calls_grow (shas_calls _ _ _ _)))
      refine wpQuiet_nil ?_
      rintro w' ⟨r, rfl⟩
      have bA8 := bA7.below (grow_below wr r) bA7.lt
      have bB8 := bB7.below (grow_below wr r) bB7.lt
      have bM8 := bM7.below (grow_below wr r) bM7.lt
      have bJ8 := bJ7.below (grow_below wr r) bJ7.lt
      have bX8 := bX7.below (grow_below wr r) bX7.lt
      have bY8 := bY7.below (grow_below wr r) bY7.lt
      have gr8 : Gr w6 (grow wr r) := gr.trans (grow_below wr r)
      clear yA0 yA1 yB0 yB1 bA7 bB7 bM7 bJ7 bX7 bY7
      generalize grow wr r = w8 at *
      have xm := hm.out p
      have xj := hj.out p
      have xx := hx.out p
      have xy := hy.out p
      have hI := rfl (a := hasB a b p)
      generalize hasB a b p = I at *
      generalize hasB c d p = T at *
      cases I with
      | true =>
        simp only [Bool.true_and, Bool.false_and, Bool.true_or, Bool.false_or] at xm xx xy xj
        have c_xj : Hid (∀ w : World, Calls Tryd.prog 17 #[.agg #[.int .i64 jF, .int .i64 jT], .int .i64 p] w fun e w' => e = .returned (.bool (true)) ∧ Gr w w') := fun w => xj ▸ shas_calls jF jT p w
        have c_xx : Hid (∀ w : World, Calls Tryd.prog 17 #[.agg #[.int .i64 cA, .int .i64 cM], .int .i64 p] w fun e w' => e = .returned (.bool (decide (p < x))) ∧ Gr w w') := fun w => xx ▸ shas_calls cA cM p w
        have c_xy : Hid (∀ w : World, Calls Tryd.prog 17 #[.agg #[.int .i64 cM, .int .i64 cB], .int .i64 p] w fun e w' => e = .returned (.bool (decide (x ≤ p))) ∧ Gr w w') := fun w => xy ▸ shas_calls cM cB p w
        subst xm
        clear xj
        clear xx xy hI
        have s80 := bJ8.at_ (i := 0) (v := .int .i64 jF) rfl
        have s81 := bJ8.at_ (i := 1) (v := .int .i64 jT) rfl
        go_wp2_with (first | (go_at_call 17; have _q := gq1; refine (c_xy.out _).mono ?_; rintro e v2 ⟨rfl, gq2⟩) | (go_at_call 17; have _q := gq0; refine (c_xx.out _).mono ?_; rintro e v1 ⟨rfl, gq1⟩; have dY1 := dY0.below gq1 dY0.lt; have t10 := dY1.at_ (i := 0) (v := .int .i64 cM) rfl; have t11 := dY1.at_ (i := 1) (v := .int .i64 cB) rfl) | (go_at_call 17; refine (c_xj.out _).mono ?_; rintro e v0 ⟨rfl, gq0⟩; have dX0 := bX8.below gq0 bX8.lt; have dY0 := bY8.below gq0 bY8.lt; have t00 := dX0.at_ (i := 0) (v := .int .i64 cA) rfl; have t01 := dX0.at_ (i := 1) (v := .int .i64 cM) rfl))
        go_roundw
        case rel => exact ⟨k + 1, by omega, by go_num, (((gr8.trans gq0).trans gq1).trans gq2)⟩
        case measure => simp [intOf]; omega
      | false =>
        simp only [Bool.true_and, Bool.false_and, Bool.true_or, Bool.false_or] at xm xx xy xj
        have c_xj : Hid (∀ w : World, Calls Tryd.prog 17 #[.agg #[.int .i64 jF, .int .i64 jT], .int .i64 p] w fun e w' => e = .returned (.bool (T)) ∧ Gr w w') := fun w => xj ▸ shas_calls jF jT p w
        have c_xx : Hid (∀ w : World, Calls Tryd.prog 17 #[.agg #[.int .i64 cA, .int .i64 cM], .int .i64 p] w fun e w' => e = .returned (.bool (false)) ∧ Gr w w') := fun w => xx ▸ shas_calls cA cM p w
        have c_xy : Hid (∀ w : World, Calls Tryd.prog 17 #[.agg #[.int .i64 cM, .int .i64 cB], .int .i64 p] w fun e w' => e = .returned (.bool (false)) ∧ Gr w w') := fun w => xy ▸ shas_calls cM cB p w
        clear xj
        clear xx xy hI
        have s80 := bJ8.at_ (i := 0) (v := .int .i64 jF) rfl
        have s81 := bJ8.at_ (i := 1) (v := .int .i64 jT) rfl
        go_wp2_with (first | (go_at_call 17; have _q := gq1; refine (c_xy.out _).mono ?_; rintro e v2 ⟨rfl, gq2⟩) | (go_at_call 17; have _q := gq0; refine (c_xx.out _).mono ?_; rintro e v1 ⟨rfl, gq1⟩; have dY1 := dY0.below gq1 dY0.lt; have t10 := dY1.at_ (i := 0) (v := .int .i64 cM) rfl; have t11 := dY1.at_ (i := 1) (v := .int .i64 cB) rfl) | (go_at_call 17; refine (c_xj.out _).mono ?_; rintro e v0 ⟨rfl, gq0⟩; have dX0 := bX8.below gq0 bX8.lt; have dY0 := bY8.below gq0 bY8.lt; have t00 := dX0.at_ (i := 0) (v := .int .i64 cA) rfl; have t01 := dX0.at_ (i := 1) (v := .int .i64 cM) rfl))
        go_roundw
        case rel => exact ⟨k + 1, by omega, by go_num, (((gr8.trans gq0).trans gq1).trans gq2)⟩
        case measure => simp [intOf]; omega
    · obtain rfl : k = n + 1 := by omega
      go_wp2
      go_ret
      exact ⟨rfl, G7.trans gr⟩
set_option maxHeartbeats 6400000 in
set_option maxRecDepth 100000 in
theorem spanBytes_ff (a b c d x mF mT jF jT cA cM cB : Int)
    (HM : Hid (∀ w : World, Calls Tryd.prog 19 #[.agg #[.int .i64 a, .int .i64 b], .agg #[.int .i64 c, .int .i64 d]] w fun e w' => e = .returned (.tuple #[.agg #[.int .i64 mF, .int .i64 mT], .bool false]) ∧ Gr w w'))
    (HJ : Hid (∀ w : World, Calls Tryd.prog 23 #[.agg #[.int .i64 a, .int .i64 b], .agg #[.int .i64 c, .int .i64 d]] w fun e w' => e = .returned (.tuple #[.agg #[.int .i64 jF, .int .i64 jT], .bool false]) ∧ Gr w w'))
    (HC : Hid (∀ w : World, Calls Tryd.prog 26 #[.agg #[.int .i64 a, .int .i64 b], .int .i64 x] w fun e w' => e = .returned (.tuple #[.agg #[.int .i64 cA, .int .i64 cM], .agg #[.int .i64 cM, .int .i64 cB]]) ∧ Gr w w'))
    (hm : Hid (∀ p, false = (hasB a b p && hasB c d p)))
    (hx : Hid (∀ p, hasB cA cM p = (hasB a b p && decide (p < x)))) (hy : Hid (∀ p, hasB cM cB p = (hasB a b p && decide (x ≤ p))))
    (w : World) (hS : Std w) : Calls Tryd.prog 10 #[.agg #[.int .i64 a, .int .i64 b], .agg #[.int .i64 c, .int .i64 d], .int .i64 x] w fun e w' => e = .returned (.bool true) ∧ Gr w w' := by
  have bA0 := (Blk.new w 23 #[.int .i64 a, .int .i64 b]).alloc (.cells #[.int .i64 c, .int .i64 d] 23)
  have bB0 := Blk.new (w.alloc (.cells #[.int .i64 a, .int .i64 b] 23)) 23 #[.int .i64 c, .int .i64 d]
  rw [World.size_alloc] at bB0
  have G0 : Gr w ((w.alloc (.cells #[.int .i64 a, .int .i64 b] 23)).alloc (.cells #[.int .i64 c, .int .i64 d] 23)) := ((Gr.refl w).alloc _).alloc _
  have S0 := hS.gr G0
  go_enter Tryd.func10, Tryd.ntmps10
  go_wp2_with (first | (go_at_call 12; refine (awake_calls _ S0).mono ?_; rintro e w1 ⟨rfl, g1⟩; have G1 := G0.trans g1; have bA1 := bA0.below g1 bA0.lt; have bB1 := bB0.below g1 bB0.lt; have p10 : w1.cell? ⟨w.heap.size, 0, none⟩ = some (.int .i64 a) := bA1.at_ rfl; have p11 : w1.cell? ⟨w.heap.size, 1, none⟩ = some (.int .i64 b) := bA1.at_ rfl; have q10 : w1.cell? ⟨w.heap.size + 1, 0, none⟩ = some (.int .i64 c) := bB1.at_ rfl; have q11 : w1.cell? ⟨w.heap.size + 1, 1, none⟩ = some (.int .i64 d) := bB1.at_ rfl) | (go_at_call 19; refine (HM.out _).mono ?_; rintro e w2 ⟨rfl, g2⟩; have g2x : Gr w1 (w2.alloc (.cells #[.int .i64 mF, .int .i64 mT] 23)) := Gr.alloc g2 _; have G2 := G1.trans g2x; have bA2 := bA1.below g2x bA1.lt; have bB2 := bB1.below g2x bB1.lt; have bM2 := Blk.new w2 23 #[.int .i64 mF, .int .i64 mT]; have p20 : (w2.alloc (.cells #[.int .i64 mF, .int .i64 mT] 23)).cell? ⟨w.heap.size, 0, none⟩ = some (.int .i64 a) := bA2.at_ rfl; have p21 : (w2.alloc (.cells #[.int .i64 mF, .int .i64 mT] 23)).cell? ⟨w.heap.size, 1, none⟩ = some (.int .i64 b) := bA2.at_ rfl; have q20 : (w2.alloc (.cells #[.int .i64 mF, .int .i64 mT] 23)).cell? ⟨w.heap.size + 1, 0, none⟩ = some (.int .i64 c) := bB2.at_ rfl; have q21 : (w2.alloc (.cells #[.int .i64 mF, .int .i64 mT] 23)).cell? ⟨w.heap.size + 1, 1, none⟩ = some (.int .i64 d) := bB2.at_ rfl) | (go_at_call 23; refine (HJ.out _).mono ?_; rintro e w3 ⟨rfl, g3⟩; have g3x : Gr (w2.alloc (.cells #[.int .i64 mF, .int .i64 mT] 23)) (w3.alloc (.cells #[.int .i64 jF, .int .i64 jT] 23)) := Gr.alloc g3 _; have G3 := G2.trans g3x; have bA3 := bA2.below g3x bA2.lt; have bB3 := bB2.below g3x bB2.lt; have bM3 := bM2.below g3x bM2.lt; have bJ3 := Blk.new w3 23 #[.int .i64 jF, .int .i64 jT]; have p30 : (w3.alloc (.cells #[.int .i64 jF, .int .i64 jT] 23)).cell? ⟨w.heap.size, 0, none⟩ = some (.int .i64 a) := bA3.at_ rfl; have p31 : (w3.alloc (.cells #[.int .i64 jF, .int .i64 jT] 23)).cell? ⟨w.heap.size, 1, none⟩ = some (.int .i64 b) := bA3.at_ rfl; have q30 : (w3.alloc (.cells #[.int .i64 jF, .int .i64 jT] 23)).cell? ⟨w.heap.size + 1, 0, none⟩ = some (.int .i64 c) := bB3.at_ rfl; have q31 : (w3.alloc (.cells #[.int .i64 jF, .int .i64 jT] 23)).cell? ⟨w.heap.size + 1, 1, none⟩ = some (.int .i64 d) := bB3.at_ rfl) | (go_at_call 26; refine (HC.out _).mono ?_; rintro e w4 ⟨rfl, g4⟩; have g4x : Gr (w3.alloc (.cells #[.int .i64 jF, .int .i64 jT] 23)) ((w4.alloc (.cells #[.int .i64 cA, .int .i64 cM] 23)).alloc (.cells #[.int .i64 cM, .int .i64 cB] 23)) := Gr.alloc (Gr.alloc g4 _) _; have G4 := G3.trans g4x; have bA4 := bA3.below g4x bA3.lt; have bB4 := bB3.below g4x bB3.lt; have bM4 := bM3.below g4x bM3.lt; have bJ4 := bJ3.below g4x bJ3.lt; have bX4 := (Blk.new w4 23 #[.int .i64 cA, .int .i64 cM]).alloc (.cells #[.int .i64 cM, .int .i64 cB] 23); have bY4 : Blk ((w4.alloc (.cells #[.int .i64 cA, .int .i64 cM] 23)).alloc (.cells #[.int .i64 cM, .int .i64 cB] 23)) (w4.heap.size + 1) 23 #[.int .i64 cM, .int .i64 cB] := (by have := Blk.new (w4.alloc (.cells #[.int .i64 cA, .int .i64 cM] 23)) 23 #[.int .i64 cM, .int .i64 cB]; rwa [World.size_alloc] at this); have g5x : Gr ((w4.alloc (.cells #[.int .i64 cA, .int .i64 cM] 23)).alloc (.cells #[.int .i64 cM, .int .i64 cB] 23)) (((w4.alloc (.cells #[.int .i64 cA, .int .i64 cM] 23)).alloc (.cells #[.int .i64 cM, .int .i64 cB] 23)).alloc (.cells #[.int .i64 a, .int .i64 b, .int .i64 c, .int .i64 d] 23)) := Gr.alloc (Gr.refl _) _; have bZ4 : Blk (((w4.alloc (.cells #[.int .i64 cA, .int .i64 cM] 23)).alloc (.cells #[.int .i64 cM, .int .i64 cB] 23)).alloc (.cells #[.int .i64 a, .int .i64 b, .int .i64 c, .int .i64 d] 23)) (w4.heap.size + 1 + 1) 23 #[.int .i64 a, .int .i64 b, .int .i64 c, .int .i64 d] := (by have := Blk.new ((w4.alloc (.cells #[.int .i64 cA, .int .i64 cM] 23)).alloc (.cells #[.int .i64 cM, .int .i64 cB] 23)) 23 #[.int .i64 a, .int .i64 b, .int .i64 c, .int .i64 d]; rwa [World.size_alloc, World.size_alloc] at this); have p40 : ((w4.alloc (.cells #[.int .i64 cA, .int .i64 cM] 23)).alloc (.cells #[.int .i64 cM, .int .i64 cB] 23)).cell? ⟨w.heap.size, 0, none⟩ = some (.int .i64 a) := bA4.at_ rfl; have p41 : ((w4.alloc (.cells #[.int .i64 cA, .int .i64 cM] 23)).alloc (.cells #[.int .i64 cM, .int .i64 cB] 23)).cell? ⟨w.heap.size, 1, none⟩ = some (.int .i64 b) := bA4.at_ rfl; have q40 : ((w4.alloc (.cells #[.int .i64 cA, .int .i64 cM] 23)).alloc (.cells #[.int .i64 cM, .int .i64 cB] 23)).cell? ⟨w.heap.size + 1, 0, none⟩ = some (.int .i64 c) := bB4.at_ rfl; have q41 : ((w4.alloc (.cells #[.int .i64 cA, .int .i64 cM] 23)).alloc (.cells #[.int .i64 cM, .int .i64 cB] 23)).cell? ⟨w.heap.size + 1, 1, none⟩ = some (.int .i64 d) := bB4.at_ rfl) | (go_at_call 34; refine (all_calls a b c d _ _ bZ4).mono ?_; rintro e w5 ⟨n, v5, rfl, hn, O5⟩; obtain ⟨xs, own5, ints5, G5⟩ := O5; have HO := Lib.hid own5; have HI := Lib.hid ints5; clear own5 ints5; have z5 := Below.size G5; have rv5 : RV (w5.alloc (.cells #[.int .i64 x] 2)) (some ⟨w5.heap.size, 0, none⟩) [.int .i64 x] := RV.new w5 [.int .i64 x] 2 (0, 0)) | ((with_reducible show wpList _ _ _ (⟨some 43, _, _, _, _, _⟩ :: _) _ _); refine wpList_append_rv el_i64 rfl (.tmp 40) (.tmp 42) rfl _ _ n xs rfl (HO.out.alloc _) (some ⟨w5.heap.size, 0, none⟩) 1 1 [.int .i64 x] rfl rfl rv5 (one1 x) (by unfold maxLen; omega) (by omega) (by simp at z5 ⊢; omega) ?_; intro v6 w6 own6 gr6 hv6; have G6 := Below.grown (Gr.alloc G5 _) gr6 (by simp at z5 ⊢; omega) (fun k hk => (HO.out.lt k hk).1); have I6 := Lib.hid (ints1 x HI.out); obtain ⟨A6, k6, hvf, _, _⟩ := own_form own6; subst hvf; have R6 := RV.of_own own6; have L6 : (xs ++ [Value.int .i64 x]).length = n + 1 := (by have := own6.1; omega); have R6 := Lib.hid R6; have L6 := Lib.hid L6; clear own6 gr6 hv6 rv5))
  have bA6 := (bA4.below g5x bA4.lt).below G6 (bA4.below g5x bA4.lt).lt
  have bB6 := (bB4.below g5x bB4.lt).below G6 (bB4.below g5x bB4.lt).lt
  have bM6 := (bM4.below g5x bM4.lt).below G6 (bM4.below g5x bM4.lt).lt
  have bJ6 := (bJ4.below g5x bJ4.lt).below G6 (bJ4.below g5x bJ4.lt).lt
  have bX6 := (bX4.below g5x bX4.lt).below G6 (bX4.below g5x bX4.lt).lt
  have bY6 := (bY4.below g5x bY4.lt).below G6 (bY4.below g5x bY4.lt).lt
  have G7 : Gr w w6 := (G4.trans g5x).trans G6
  clear bA0 bB0 bA1 bB1 bA2 bB2 bM2 bA3 bB3 bM3 bJ3 bA4 bB4 bM4 bJ4 bX4 bY4 bZ4 p10 q10 p11 q11 p20 q20 p21 q21 p30 q30 p31 q31 p40 q40 p41 q41 G0 G1 G2 G3 G4 G5 G6 g1 g2 g3 g4 g2x g3x g4x g5x HM HJ HC S0 z5 HO HI
  go_loopw [45] (fun i wr => ∃ k : Nat, k ≤ n + 1 ∧ i = .int .i64 k ∧ Gr w6 wr) (fun i _ => n + 1 - (intOf i).toNat)
  case atStart => exact ⟨0, by omega, rfl, Gr.refl _⟩
  case round =>
    obtain ⟨k, hk, rfl, gr⟩ := hrel
    by_cases hlt : k < n + 1
    · obtain ⟨bb, off, p, rfl, hbb, hcp⟩ := out_at R6.out I6.out (show k < _ by rw [L6.out]; exact hlt)
      have cp := gr.cell hcp
      have hdec : decide ((k : Int) < ((n + 1 : Nat) : Int)) = true := by simp; omega
      have hdec' : decide ((k : Int) < (n : Int) + 1) = true := by simp; omega
      have bA7 := bA6.below gr bA6.lt
      have bB7 := bB6.below gr bB6.lt
      have bM7 := bM6.below gr bM6.lt
      have bJ7 := bJ6.below gr bJ6.lt
      have bX7 := bX6.below gr bX6.lt
      have bY7 := bY6.below gr bY6.lt
      go_wp2
      have yA0 := growc (bA7.at_ (i := 0) (v := .int .i64 a) rfl)
      have yA1 := growc (bA7.at_ (i := 1) (v := .int .i64 b) rfl)
      have yB0 := growc (bB7.at_ (i := 0) (v := .int .i64 c) rfl)
      have yB1 := growc (bB7.at_ (i := 1) (v := .int .i64 d) rfl)
      refine wp_region_grow (by kernel_rfl) (by kernel_rfl) ?_
      repeat (first | go_big_quiet_step (fail) | go_big_quiet_step (exact calls_grow (shas_calls _ _ _ _)))
      refine wpQuiet_nil ?_
      rintro w' ⟨r, rfl⟩
      have bA8 := bA7.below (grow_below wr r) bA7.lt
      have bB8 := bB7.below (grow_below wr r) bB7.lt
      have bM8 := bM7.below (grow_below wr r) bM7.lt
      have bJ8 := bJ7.below (grow_below wr r) bJ7.lt
      have bX8 := bX7.below (grow_below wr r) bX7.lt
      have bY8 := bY7.below (grow_below wr r) bY7.lt
      have gr8 : Gr w6 (grow wr r) := gr.trans (grow_below wr r)
      clear yA0 yA1 yB0 yB1 bA7 bB7 bM7 bJ7 bX7 bY7
      generalize grow wr r = w8 at *
      have xm := hm.out p
      have xx := hx.out p
      have xy := hy.out p
      have hI := rfl (a := hasB a b p)
      generalize hasB a b p = I at *
      generalize hasB c d p = T at *
      cases I with
      | true =>
        simp only [Bool.true_and, Bool.false_and, Bool.true_or, Bool.false_or] at xm xx xy
        have c_xx : Hid (∀ w : World, Calls Tryd.prog 17 #[.agg #[.int .i64 cA, .int .i64 cM], .int .i64 p] w fun e w' => e = .returned (.bool (decide (p < x))) ∧ Gr w w') := fun w => xx ▸ shas_calls cA cM p w
        have c_xy : Hid (∀ w : World, Calls Tryd.prog 17 #[.agg #[.int .i64 cM, .int .i64 cB], .int .i64 p] w fun e w' => e = .returned (.bool (decide (x ≤ p))) ∧ Gr w w') := fun w => xy ▸ shas_calls cM cB p w
        subst xm
        clear xx xy hI
        have s80 := bX8.at_ (i := 0) (v := .int .i64 cA) rfl
        have s81 := bX8.at_ (i := 1) (v := .int .i64 cM) rfl
        go_wp2_with (first | (go_at_call 17; have _q := gq0; refine (c_xy.out _).mono ?_; rintro e v1 ⟨rfl, gq1⟩) | (go_at_call 17; refine (c_xx.out _).mono ?_; rintro e v0 ⟨rfl, gq0⟩; have dY0 := bY8.below gq0 bY8.lt; have t00 := dY0.at_ (i := 0) (v := .int .i64 cM) rfl; have t01 := dY0.at_ (i := 1) (v := .int .i64 cB) rfl))
        go_roundw
        case rel => exact ⟨k + 1, by omega, by go_num, ((gr8.trans gq0).trans gq1)⟩
        case measure => simp [intOf]; omega
      | false =>
        simp only [Bool.true_and, Bool.false_and, Bool.true_or, Bool.false_or] at xm xx xy
        have c_xx : Hid (∀ w : World, Calls Tryd.prog 17 #[.agg #[.int .i64 cA, .int .i64 cM], .int .i64 p] w fun e w' => e = .returned (.bool (false)) ∧ Gr w w') := fun w => xx ▸ shas_calls cA cM p w
        have c_xy : Hid (∀ w : World, Calls Tryd.prog 17 #[.agg #[.int .i64 cM, .int .i64 cB], .int .i64 p] w fun e w' => e = .returned (.bool (false)) ∧ Gr w w') := fun w => xy ▸ shas_calls cM cB p w
        clear xx xy hI
        have s80 := bX8.at_ (i := 0) (v := .int .i64 cA) rfl
        have s81 := bX8.at_ (i := 1) (v := .int .i64 cM) rfl
        go_wp2_with (first | (go_at_call 17; have _q := gq0; refine (c_xy.out _).mono ?_; rintro e v1 ⟨rfl, gq1⟩) | (go_at_call 17; refine (c_xx.out _).mono ?_; rintro e v0 ⟨rfl, gq0⟩; have dY0 := bY8.below gq0 bY8.lt; have t00 := dY0.at_ (i := 0) (v := .int .i64 cM) rfl; have t01 := dY0.at_ (i := 1) (v := .int .i64 cB) rfl))
        go_roundw
        case rel => exact ⟨k + 1, by omega, by go_num, ((gr8.trans gq0).trans gq1)⟩
        case measure => simp [intOf]; omega
    · obtain rfl : k = n + 1 := by omega
      go_wp2
      go_ret
      exact ⟨rfl, G7.trans gr⟩
theorem spanBytes_walk (a b c d x : Int) (w : World) (hS : Std w) : Calls Tryd.prog 10 #[.agg #[.int .i64 a, .int .i64 b], .agg #[.int .i64 c, .int .i64 d], .int .i64 x] w fun e w' => e = .returned (.bool true) ∧ Gr w w' := by
  have HM := fun w => smeet_calls a b c d w
  have HJ := fun w => sjoin_calls a b c d w
  have HC := fun w => scut_calls a b x w
  have hm := has_meet a b c d
  have hx := has_cutA a b x
  have hy := has_cutB a b x
  cases hM : meetB a b c d with
  | true =>
    rw [hM] at HM hm
    simp only [Bool.true_and] at hm
    cases hJ : touchB a b c d with
    | true =>
      rw [hJ] at HJ
      exact spanBytes_tt a b c d x _ _ _ _ _ _ _ HM HJ HC hm (fun p => has_join a b c d p hJ) hx hy w hS
    | false =>
      rw [hJ] at HJ
      exact spanBytes_tf a b c d x _ _ _ _ _ _ _ HM HJ HC hm hx hy w hS
  | false =>
    rw [hM] at HM hm
    simp only [Bool.false_and] at hm
    cases hJ : touchB a b c d with
    | true =>
      rw [hJ] at HJ
      exact spanBytes_ft a b c d x _ _ _ _ _ _ _ HM HJ HC hm (fun p => has_join a b c d p hJ) hx hy w hS
    | false =>
      rw [hJ] at HJ
      exact spanBytes_ff a b c d x _ _ _ _ _ _ _ HM HJ HC hm hx hy w hS
end Go.Proofs.YtpcedmiehoimbaaDoor
