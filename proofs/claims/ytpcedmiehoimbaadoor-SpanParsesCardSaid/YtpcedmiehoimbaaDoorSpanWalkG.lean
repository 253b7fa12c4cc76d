/-
  The document's Num and Text.
-/
import Derived.Test.YtpcedmiehoimbaaDoorSpanWalkB
import Derived.Test.YtpcedmiehoimbaaDoorSpanStd
import Derived.Test.YtpcedmiehoimbaaDoorSpanNumPlain
namespace Go.Proofs.YtpcedmiehoimbaaDoor
open Go.RowKit SpanP
theorem rnum_small (n : Nat) (h : n < 10) (w : World) : Calls Tryd.prog 39 #[.int .i64 (n : Int)] w fun e w' => e = .returned (.string (bstr (Lib.decDigits n))) ∧ Gr w w' := by
  have hB := Blk.new w 5 #[.int .u8 (48 + (n : Int))]
  have hR : RB (w.alloc (.cells #[.int .u8 (48 + (n : Int))] 5)) (some ⟨w.heap.size, 0, none⟩) (Lib.decDigits n) := by
    refine RB.of_blk hB ?_
    rw [Lib.decDigits_one h]
    simp only [cB, byteV, List.map_cons, List.map_nil]
    rw [UInt8.toNat_ofNat', Nat.mod_eq_of_lt (by omega)]
    rfl
  have cv : (convert 53 9 (.slice (some ⟨w.heap.size, 0, none⟩) 1 1)).run Tryd.prog (w.alloc (.cells #[.int .u8 (48 + (n : Int))] 5)) = .ok (.string (bstr (Lib.decDigits n))) _ :=
    run_str _ _ _ _ Tryd.underlying53 Tryd.underlying5 Tryd.underlying9 _ _ 1 1 hR (by rw [Lib.decDigits_one h]; rfl)
  have g : Gr w (w.alloc (.cells #[.int .u8 (48 + (n : Int))] 5)) := (Gr.refl w).alloc _
  clear hB hR
  go_enter Tryd.func39, Tryd.ntmps39
  go_wp2
  go_ret
  exact ⟨rfl, g⟩
attribute [local go_sem] bstr_add bstr_dash
theorem rnum_great (n : Nat) (h : ¬ n < 10) (hn : n ≤ 4611686018427387904) (ih : ∀ m : Nat, m < n → ∀ w : World, Calls Tryd.prog 39 #[.int .i64 (m : Int)] w fun e w' => e = .returned (.string (bstr (Lib.decDigits m))) ∧ Gr w w') (w : World) : Calls Tryd.prog 39 #[.int .i64 (n : Int)] w fun e w' => e = .returned (.string (bstr (Lib.decDigits n))) ∧ Gr w w' := by
  have i1 : Hid (∀ w : World, Calls Tryd.prog 39 #[.int .i64 ((n : Int) / 10)] w fun e w' => e = .returned (.string (bstr (Lib.decDigits (n / 10)))) ∧ Gr w w') := by
    intro w
    have := ih (n / 10) (by omega) w
    rwa [show ((n / 10 : Nat) : Int) = (n : Int) / 10 by omega] at this
  have i2 : Hid (∀ w : World, Calls Tryd.prog 39 #[.int .i64 ((n : Int) % 10)] w fun e w' => e = .returned (.string (bstr (Lib.decDigits (n % 10)))) ∧ Gr w w') := by
    intro w
    have := ih (n % 10) (by omega) w
    rwa [show ((n % 10 : Nat) : Int) = (n : Int) % 10 by omega] at this
  have hd : Hid (Lib.decDigits (n / 10) ++ Lib.decDigits (n % 10) = Lib.decDigits n) := by
    show _ = _
    rw [Lib.decDigits_one (i := n % 10) (by omega)]
    conv => rhs; rw [Lib.decDigits, dif_neg h]
  have z1 : ¬ 9223372036854775807 < (bstr (Lib.decDigits (n / 10))).size + (bstr (Lib.decDigits (n % 10))).size := by
    rw [bstr_size, bstr_size]
    have := dec_len (n / 10) (by omega)
    have := dec_len (n % 10) (by omega)
    omega
  clear ih
  generalize Lib.decDigits (n / 10) = x at *
  generalize Lib.decDigits (n % 10) = y at *
  go_enter Tryd.func39, Tryd.ntmps39
  go_wp2_with (first | (go_at_call 39; have _q := g1; refine (i2.out _).mono ?_; rintro e w2 ⟨rfl, g2⟩) | (go_at_call 39; refine (i1.out _).mono ?_; rintro e w1 ⟨rfl, g1⟩))
  go_ret
  exact ⟨by rw [← hd.out]; rfl, g1.trans g2⟩
theorem rnum_calls : ∀ (n : Nat), n ≤ 4611686018427387904 → ∀ (w : World), Calls Tryd.prog 39 #[.int .i64 (n : Int)] w fun e w' => e = .returned (.string (bstr (Lib.decDigits n))) ∧ Gr w w' := by
  intro n
  induction n using Nat.strongRecOn with
  | _ n ih =>
    intro hn w
    by_cases h : n < 10
    · exact rnum_small n h w
    · exact rnum_great n h hn (fun m hm w => ih m hm (by omega) w) w
theorem rnumI_calls (x : Int) (h0 : 0 ≤ x) (h1 : x ≤ 4611686018427387904) (w : World) : Calls Tryd.prog 39 #[.int .i64 x] w fun e w' => e = .returned (.string (bstr (Lib.itoa x))) ∧ Gr w w' := by
  have := rnum_calls x.toNat (by omega) w
  rw [show ((x.toNat : Nat) : Int) = x by omega] at this
  unfold Lib.itoa
  rw [if_neg (by omega)]
  exact this
theorem rtext_no (a b : Int) (hr : rightB a b = false) (w : World) : Calls Tryd.prog 31 #[.agg #[.int .i64 a, .int .i64 b]] w fun e w' => e = .returned (.string (bstr (textL a b))) ∧ Gr w w' := by
  have ht : textL a b = [] := if_neg (of_decide_eq_false hr)
  go_enter Tryd.func31, Tryd.ntmps31
  go_wp2_with (go_at_call 14; refine (rright_calls _ _ _).mono ?_; rintro e w1 ⟨rfl, g1⟩)
  go_ret
  exact ⟨by rw [ht]; rfl, ((Gr.refl w).alloc _).trans g1⟩
set_option maxHeartbeats 1600000 in
theorem rtext_yes (a b : Int) (hr : rightB a b = true) (w : World) : Calls Tryd.prog 31 #[.agg #[.int .i64 a, .int .i64 b]] w fun e w' => e = .returned (.string (bstr (textL a b))) ∧ Gr w w' := by
  have hb := of_decide_eq_true hr
  obtain ⟨hb1, hb2, hb3⟩ := hb
  have B0 := Blk.new w 23 #[.int .i64 a, .int .i64 b]
  have g0 : Gr w (w.alloc (.cells #[.int .i64 a, .int .i64 b] 23)) := (Gr.refl w).alloc _
  have za : ¬ 9223372036854775807 < (bstr (Lib.itoa a)).size + 1 := by rw [bstr_size]; have := Lib.itoa_length_le a (by omega) (by omega); omega
  have zb : ¬ 9223372036854775807 < (bstr (Lib.itoa a ++ [45])).size + (bstr (Lib.itoa b)).size := by rw [bstr_size, bstr_size, List.length_append]; have := Lib.itoa_length_le a (by omega) (by omega); have := Lib.itoa_length_le b (by omega) (by omega); simp; omega
  have HT : Hid (textL a b = if b = 4611686018427387904 ∧ a ≠ 4611686018427387904 then Lib.itoa a ++ [45] else Lib.itoa a ++ 45 :: Lib.itoa b) := if_pos ⟨hb1, hb2, hb3⟩
  go_enter Tryd.func31, Tryd.ntmps31
  go_wp2_with (go_at_call 14; refine (rright_calls _ _ _).mono ?_; rintro e w1 ⟨rfl, g1⟩)
  have B1 := B0.below g1 B0.lt
  have G1 := g0.trans g1
  clear B0 g0 g1
  by_cases h1 : b = 4611686018427387904
  · have e1 : (b == 4611686018427387904) = true := beq_iff_eq.2 h1
    by_cases h2 : a = 4611686018427387904
    · have e2 : (a != 4611686018427387904) = false := by simpa using h2
      have HE : Hid (textL a b = Lib.itoa a ++ 45 :: Lib.itoa b) := by show _ = _; rw [HT.out, if_neg (by omega)]
      clear HT h1 h2
      have m0 := growc (B1.at_ (i := 0) (v := .int .i64 a) rfl)
      have m1 := growc (B1.at_ (i := 1) (v := .int .i64 b) rfl)
      refine wp_region_grow (by kernel_rfl) (by kernel_rfl) ?_
      repeat (first | go_big_quiet_step (fail) | go_big_quiet_step (exact calls_grow (end_calls _)))
      refine wpQuiet_nil ?_
      rintro w' ⟨r, rfl⟩
      have G2 := G1.grow_ r
      have B2 := B1.below (grow_below _ r) B1.lt
      clear m0 m1 B1 G1
      generalize grow w1 r = W2 at *
      have q0 := B2.at_ (i := 0) (v := .int .i64 a) rfl
      have q1 := B2.at_ (i := 1) (v := .int .i64 b) rfl
      go_wp2
      have n0 := growc (B2.at_ (i := 0) (v := .int .i64 a) rfl)
      have n1 := growc (B2.at_ (i := 1) (v := .int .i64 b) rfl)
      refine wp_region_grow (by kernel_rfl) (by kernel_rfl) ?_
      repeat (first | go_big_quiet_step (fail) | go_big_quiet_step (exact calls_grow (rnumI_calls _ (by omega) (by omega) _)))
      refine wpQuiet_nil ?_
      rintro w' ⟨r2, rfl⟩
      go_wp2
      go_ret
      exact ⟨by rw [HE.out]; rfl, G2.grow_ r2⟩
    · have e2 : (a != 4611686018427387904) = true := by simpa using h2
      have HE : Hid (textL a b = Lib.itoa a ++ [45]) := by show _ = _; rw [HT.out, if_pos ⟨h1, h2⟩]
      clear HT h1 h2
      have m0 := growc (B1.at_ (i := 0) (v := .int .i64 a) rfl)
      have m1 := growc (B1.at_ (i := 1) (v := .int .i64 b) rfl)
      refine wp_region_grow (by kernel_rfl) (by kernel_rfl) ?_
      repeat (first | go_big_quiet_step (fail) | go_big_quiet_step (exact calls_grow (end_calls _)))
      refine wpQuiet_nil ?_
      rintro w' ⟨r, rfl⟩
      have G2 := G1.grow_ r
      have B2 := B1.below (grow_below _ r) B1.lt
      clear m0 m1 B1 G1
      generalize grow w1 r = W2 at *
      have q0 := B2.at_ (i := 0) (v := .int .i64 a) rfl
      have q1 := B2.at_ (i := 1) (v := .int .i64 b) rfl
      go_wp2_with (first | (go_at_call 39; have _q := g3; refine (rnumI_calls b (by omega) hb3 _).mono ?_; rintro e w4 ⟨rfl, g4⟩) | (go_at_call 39; refine (rnumI_calls a hb1 (by omega) _).mono ?_; rintro e w3 ⟨rfl, g3⟩; have B3 := B2.below g3 B2.lt; have p0 := B3.at_ (i := 0) (v := .int .i64 a) rfl; have p1 := B3.at_ (i := 1) (v := .int .i64 b) rfl))
      go_ret
      exact ⟨by rw [HE.out]; rfl, G2.trans g3⟩
  · have e1 : (b == 4611686018427387904) = false := by simpa using h1
    have HE : Hid (textL a b = Lib.itoa a ++ 45 :: Lib.itoa b) := by show _ = _; rw [HT.out, if_neg (by omega)]
    clear HT
    have m0 := growc (B1.at_ (i := 0) (v := .int .i64 a) rfl)
    have m1 := growc (B1.at_ (i := 1) (v := .int .i64 b) rfl)
    refine wp_region_grow (by kernel_rfl) (by kernel_rfl) ?_
    repeat (first | go_big_quiet_step (fail) | go_big_quiet_step (exact calls_grow (end_calls _)))
    refine wpQuiet_nil ?_
    rintro w' ⟨r, rfl⟩
    have G2 := G1.grow_ r
    have B2 := B1.below (grow_below _ r) B1.lt
    clear m0 m1 B1 G1
    generalize grow w1 r = W2 at *
    have q0 := B2.at_ (i := 0) (v := .int .i64 a) rfl
    have q1 := B2.at_ (i := 1) (v := .int .i64 b) rfl
    go_wp2
    have n0 := growc (B2.at_ (i := 0) (v := .int .i64 a) rfl)
    have n1 := growc (B2.at_ (i := 1) (v := .int .i64 b) rfl)
    refine wp_region_grow (by kernel_rfl) (by kernel_rfl) ?_
    repeat (first | go_big_quiet_step (fail) | go_big_quiet_step (exact calls_grow (rnumI_calls _ (by omega) (by omega) _)))
    refine wpQuiet_nil ?_
    rintro w' ⟨r2, rfl⟩
    go_wp2
    go_ret
    exact ⟨by rw [HE.out]; rfl, G2.grow_ r2⟩
theorem rtext_calls (a b : Int) (w : World) : Calls Tryd.prog 31 #[.agg #[.int .i64 a, .int .i64 b]] w fun e w' => e = .returned (.string (bstr (textL a b))) ∧ Gr w w' := by
  cases hr : rightB a b
  · exact rtext_no a b hr w
  · exact rtext_yes a b hr w
end Go.Proofs.YtpcedmiehoimbaaDoor
