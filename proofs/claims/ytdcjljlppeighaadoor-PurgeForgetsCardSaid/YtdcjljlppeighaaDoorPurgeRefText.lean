/-
  Walks: the document's Num and Text.
-/
import Derived.Test.YtdcjljlppeighaaDoorPurgeWords
namespace Go.Proofs.YtdcjljlppeighaaDoor
open Go.RowKit PurgeP

set_option maxRecDepth 100000 in
theorem rnum_small (n : Nat) (h : n < 10) (w : World) : Calls Tryd.prog 51 #[.int .i64 (n : Int)] w fun e w' => e = .returned (.string (bstr (Lib.decDigits n))) ∧ Below w.heap.size w w' := by
  have hB := Blk.new w 5 #[.int .u8 (48 + (n : Int))]
  have hR : RB (w.alloc (.cells #[.int .u8 (48 + (n : Int))] 5)) (some ⟨w.heap.size, 0, none⟩) (Lib.decDigits n) := by
    refine RB.of_blk hB ?_
    rw [Lib.decDigits_one h]
    simp only [cB, byteV, List.map_cons, List.map_nil]
    rw [UInt8.toNat_ofNat', Nat.mod_eq_of_lt (by omega)]
    rfl
  have cv : (convert 92 9 (.slice (some ⟨w.heap.size, 0, none⟩) 1 1)).run Tryd.prog (w.alloc (.cells #[.int .u8 (48 + (n : Int))] 5)) = .ok (.string (bstr (Lib.decDigits n))) _ :=
    run_str _ _ _ _ Tryd.underlying92 Tryd.underlying5 Tryd.underlying9 _ _ 1 1 hR (by rw [Lib.decDigits_one h]; rfl)
  have g : Below w.heap.size w (w.alloc (.cells #[.int .u8 (48 + (n : Int))] 5)) := (Below.refl _ _).alloc (Nat.le_refl _) _
  clear hB hR
  go_enter Tryd.func51, Tryd.ntmps51
  go_wp2
  go_ret
  exact ⟨rfl, g⟩
theorem dec_lenB (n : Nat) (h : n ≤ 9223372036854775807) : (Lib.decDigits n).length ≤ 25 := by
  have := Lib.itoa_length_le (n : Int) (by omega) (by omega)
  unfold Lib.itoa at this
  rw [if_neg (by omega), Int.toNat_natCast] at this
  omega
attribute [local go_sem] bstr_add
theorem rnum_great (n : Nat) (h : ¬ n < 10) (hn : n ≤ 4611686018427387904) (ih : ∀ m : Nat, m < n → ∀ w : World, Calls Tryd.prog 51 #[.int .i64 (m : Int)] w fun e w' => e = .returned (.string (bstr (Lib.decDigits m))) ∧ Below w.heap.size w w') (w : World) :
    Calls Tryd.prog 51 #[.int .i64 (n : Int)] w fun e w' => e = .returned (.string (bstr (Lib.decDigits n))) ∧ Below w.heap.size w w' := by
  have i1 : Hid (∀ w : World, Calls Tryd.prog 51 #[.int .i64 ((n : Int) / 10)] w fun e w' => e = .returned (.string (bstr (Lib.decDigits (n / 10)))) ∧ Below w.heap.size w w') := by
    intro w
    have := ih (n / 10) (by omega) w
    rwa [show ((n / 10 : Nat) : Int) = (n : Int) / 10 by omega] at this
  have i2 : Hid (∀ w : World, Calls Tryd.prog 51 #[.int .i64 ((n : Int) % 10)] w fun e w' => e = .returned (.string (bstr (Lib.decDigits (n % 10)))) ∧ Below w.heap.size w w') := by
    intro w
    have := ih (n % 10) (by omega) w
    rwa [show ((n % 10 : Nat) : Int) = (n : Int) % 10 by omega] at this
  have hd : Hid (Lib.decDigits (n / 10) ++ Lib.decDigits (n % 10) = Lib.decDigits n) := by
    show _ = _
    rw [Lib.decDigits_one (i := n % 10) (by omega)]
    conv => rhs; rw [Lib.decDigits, dif_neg h]
  have z1 : ¬ 9223372036854775807 < (bstr (Lib.decDigits (n / 10))).size + (bstr (Lib.decDigits (n % 10))).size := by
    rw [bstr_size, bstr_size]
    have := dec_lenB (n / 10) (by omega)
    have := dec_lenB (n % 10) (by omega)
    omega
  clear ih
  generalize Lib.decDigits (n / 10) = x at *
  generalize Lib.decDigits (n % 10) = y at *
  go_enter Tryd.func51, Tryd.ntmps51
  go_wp2_with (first | (go_at_call 51; have _q := g1; refine (i2.out _).mono ?_; rintro e w2 ⟨rfl, g2⟩) | (go_at_call 51; refine (i1.out _).mono ?_; rintro e w1 ⟨rfl, g1⟩))
  go_ret
  exact ⟨by rw [← hd.out]; rfl, g1.trans (g2.mono g1.size)⟩
theorem rnum_calls : ∀ (n : Nat), n ≤ 4611686018427387904 → ∀ (w : World), Calls Tryd.prog 51 #[.int .i64 (n : Int)] w fun e w' => e = .returned (.string (bstr (Lib.decDigits n))) ∧ Below w.heap.size w w' := by
  intro n
  induction n using Nat.strongRecOn with
  | _ n ih =>
    intro hn w
    by_cases h : n < 10
    · exact rnum_small n h w
    · exact rnum_great n h hn (fun m hm w => ih m hm (by omega) w) w
theorem rnumI_calls (x : Int) (h0 : 0 ≤ x) (h1 : x ≤ 4611686018427387904) (w : World) : Calls Tryd.prog 51 #[.int .i64 x] w fun e w' => e = .returned (.string (bstr (Lib.itoa x))) ∧ Below w.heap.size w w' := by
  have := rnum_calls x.toNat (by omega) w
  rw [show ((x.toNat : Nat) : Int) = x by omega] at this
  unfold Lib.itoa
  rw [if_neg (by omega)]
  exact this
set_option maxHeartbeats 1600000 in
theorem rtext_calls (no : Int) (ks : List Txt) (hd : Bool) (A : Option Addr) (cap : Nat) (w : World) (hR : RS w A ks) (hcap : ks.length ≤ cap) (hc63 : cap ≤ 9223372036854775807) :
    Calls Tryd.prog 29 #[.agg #[.int .i64 no, .slice A ks.length cap, .bool hd]] w fun e w' => e = .returned (.tuple #[.string (bstr (textT ⟨no, ks, hd⟩)), .int .i64 (textE ⟨no, ks, hd⟩)]) ∧ Below w.heap.size w w' := by
  have xb := Blk.new w 51 #[.int .i64 no, .slice A ks.length cap, .bool hd]
  have B1 : Below w.heap.size w (w.alloc (.cells #[.int .i64 no, .slice A ks.length cap, .bool hd] 51)) := (Below.refl _ _).alloc (Nat.le_refl _) _
  have RC := rright_calls no ks hd A cap _ (hR.below B1) hcap hc63
  go_enter Tryd.func29, Tryd.ntmps29
  go_wp2_with fail
  generalize w.alloc (.cells #[.int .i64 no, .slice A ks.length cap, .bool hd] 51) = w1 at *
  refine RC.mono ?_
  clear RC
  rintro e w2 ⟨rfl, b2⟩
  have B2 := B1.trans (b2.mono B1.size)
  have xb2 := xb.below b2 xb.lt
  cases hr : rightB ⟨no, ks, hd⟩ with
  | false =>
    have HT : Hid (textT ⟨no, ks, hd⟩ = [] ∧ textE ⟨no, ks, hd⟩ = 1) := by unfold textT textE; rw [hr]; exact ⟨rfl, rfl⟩
    clear hr
    go_wp2
    go_ret2
    exact ⟨by rw [HT.out.1, HT.out.2]; rfl, B2⟩
  | true =>
    have hri := (right_iff _).1 hr
    simp only at hri
    obtain ⟨⟨hn1, hn2, hk1, hk2⟩, hg⟩ := hri
    have hkl : ∀ k ∈ ks, k.length ≤ 200 := fun k hk => (key_len (right_key hr k hk)).2.1
    have hil := Lib.itoa_length_le no (by omega) (by omega)
    have hlk : ks.length ≤ 9223372036854775807 := by omega
    have HT : Hid (textT ⟨no, ks, hd⟩ = Lib.itoa no ++ wordT hd ++ bodyT ks ∧ textE ⟨no, ks, hd⟩ = 0) := by unfold textT textE; rw [hr]; exact ⟨rfl, rfl⟩
    have HKL := Lib.hid hkl
    have HRS := hR.below B2
    have m0 : w2.cell? ⟨w.heap.size, 0, none⟩ = some (.int .i64 no) := xb2.at_ rfl
    have m1 : w2.cell? ⟨w.heap.size, 1, none⟩ = some (.slice A ks.length cap) := xb2.at_ rfl
    have m2 : w2.cell? ⟨w.heap.size, 2, none⟩ = some (.bool hd) := xb2.at_ rfl
    clear hr hg hkl hR
    have NC := fun (w' : World) => rnumI_calls no (by omega) (by omega) w'
    obtain ⟨I, hI⟩ : ∃ I, Lib.itoa no = I := ⟨_, rfl⟩
    rw [hI] at NC hil
    rw [hI] at HT
    clear hI
    have z1 : ¬ 9223372036854775807 < (bstr I).size + 5 := by rw [bstr_size]; omega
    have sp := bstr_sp I
    have HLEN : Hid (∀ k, (I ++ wordT hd ++ bodyT (ks.take k)).length ≤ 10000) := fun k => by
      have h1 := body_len (ks.take k) (fun x hx => HKL.out x (List.mem_of_mem_take hx))
      have h2 : (ks.take k).length ≤ 34 := by rw [List.length_take]; omega
      have h3 : (wordT hd).length = 5 := by cases hd <;> rfl
      simp only [List.length_append]
      omega
    have LOOP : ∀ (wl : World), Below w2.heap.size w2 wl → True := fun _ _ => trivial
    clear LOOP
    go_wp2_with fail
    refine (NC _).mono ?_
    rintro e w3 ⟨rfl, b3⟩
    have xb3 := xb2.below b3 xb2.lt
    have B3 := B2.trans (b3.mono B2.size)
    have HRS3 := HRS.below b3
    clear m0 m1 m2
    have m0 : w3.cell? ⟨w.heap.size, 0, none⟩ = some (.int .i64 no) := xb3.at_ rfl
    have m1 : w3.cell? ⟨w.heap.size, 1, none⟩ = some (.slice A ks.length cap) := xb3.at_ rfl
    have m2 : w3.cell? ⟨w.heap.size, 2, none⟩ = some (.bool hd) := xb3.at_ rfl
    cases hd
    · clear NC
      go_wp2
      clear sp z1
      go_loop [4, 5] (fun s i => ∃ k : Nat, k ≤ ks.length ∧ i = .int .i64 (k : Int) ∧ s = .string (bstr (I ++ wordT false ++ bodyT (ks.take k)))) (fun _ i => ks.length - (intOf i).toNat)
      case atStart => exact ⟨0, by omega, rfl, by simp [wordT, bodyT]⟩
      case round =>
        obtain ⟨k, hk, rfl, rfl⟩ := hrel
        by_cases hlt : k < ks.length
        · have hdec : decide ((k : Int) < (ks.length : Int)) = true := decide_eq_true (by omega)
          have hdec' : decide (k < ks.length) = true := decide_eq_true hlt
          obtain ⟨b, off, rfl, hb, hc⟩ := HRS3.at_ hlt
          have hlen := HLEN.out k
          have hlen1 := HLEN.out (k + 1)
          have HS : Hid (I ++ wordT false ++ bodyT (ks.take (k + 1)) = I ++ wordT false ++ bodyT (ks.take k) ++ [32] ++ ks.getD k []) := by
            show _ = _
            rw [List.take_succ_eq_append_getElem hlt, body_snoc, List.getD_eq_getElem?_getD, List.getElem?_eq_getElem hlt, Option.getD_some]
            simp only [List.append_assoc]
          rw [HS.out] at hlen1
          generalize ks.getD k [] = c at *
          generalize I ++ wordT false ++ bodyT (ks.take k) = P at *
          have sp := bstr_sp P
          have z2 : ¬ 9223372036854775807 < (bstr P).size + 1 := by rw [bstr_size]; omega
          have z3 : ¬ 9223372036854775807 < (bstr (P ++ [32])).size + (bstr c).size := by rw [bstr_size, bstr_size]; simp only [List.length_append] at hlen1 ⊢; omega
          clear hlen hlen1
          go_wp2
          go_round
          case rel => exact ⟨k + 1, by omega, by go_num, by rw [HS.out]; simp⟩
          case measure => simp [intOf]; omega
        · obtain rfl : k = ks.length := by omega
          rw [List.take_length]
          go_wp2
          go_ret2
          exact ⟨by rw [HT.out.1, HT.out.2]; simp, B3⟩
    · go_wp2_with fail
      refine (NC _).mono ?_
      clear NC
      rintro e w4 ⟨rfl, b4⟩
      have xb4 := xb3.below b4 xb3.lt
      have B4 := B3.trans (b4.mono B3.size)
      have HRS4 := HRS3.below b4
      clear m0 m1 m2 HRS3 B3 xb3
      have B3 := B4
      have HRS3 := HRS4
      clear B4 HRS4
      have m1 : w4.cell? ⟨w.heap.size, 1, none⟩ = some (.slice A ks.length cap) := xb4.at_ rfl
      go_wp2
      clear sp z1
      go_loop [4, 5] (fun s i => ∃ k : Nat, k ≤ ks.length ∧ i = .int .i64 (k : Int) ∧ s = .string (bstr (I ++ wordT true ++ bodyT (ks.take k)))) (fun _ i => ks.length - (intOf i).toNat)
      case atStart => exact ⟨0, by omega, rfl, by simp [wordT, bodyT]⟩
      case round =>
        obtain ⟨k, hk, rfl, rfl⟩ := hrel
        by_cases hlt : k < ks.length
        · have hdec : decide ((k : Int) < (ks.length : Int)) = true := decide_eq_true (by omega)
          have hdec' : decide (k < ks.length) = true := decide_eq_true hlt
          obtain ⟨b, off, rfl, hb, hc⟩ := HRS3.at_ hlt
          have hlen := HLEN.out k
          have hlen1 := HLEN.out (k + 1)
          have HS : Hid (I ++ wordT true ++ bodyT (ks.take (k + 1)) = I ++ wordT true ++ bodyT (ks.take k) ++ [32] ++ ks.getD k []) := by
            show _ = _
            rw [List.take_succ_eq_append_getElem hlt, body_snoc, List.getD_eq_getElem?_getD, List.getElem?_eq_getElem hlt, Option.getD_some]
            simp only [List.append_assoc]
          rw [HS.out] at hlen1
          generalize ks.getD k [] = c at *
          generalize I ++ wordT true ++ bodyT (ks.take k) = P at *
          have sp := bstr_sp P
          have z2 : ¬ 9223372036854775807 < (bstr P).size + 1 := by rw [bstr_size]; omega
          have z3 : ¬ 9223372036854775807 < (bstr (P ++ [32])).size + (bstr c).size := by rw [bstr_size, bstr_size]; simp only [List.length_append] at hlen1 ⊢; omega
          clear hlen hlen1
          go_wp2
          go_round
          case rel => exact ⟨k + 1, by omega, by go_num, by rw [HS.out]; simp⟩
          case measure => simp [intOf]; omega
        · obtain rfl : k = ks.length := by omega
          rw [List.take_length]
          go_wp2
          go_ret2
          exact ⟨by rw [HT.out.1, HT.out.2]; simp, B3⟩
end Go.Proofs.YtdcjljlppeighaaDoor
