/-
  The walk of the statement DiskRots: it returns true and changes nothing that was there.
-/
import Derived.Test.YtmemkoiooanhkaaDiskLawC
import Derived.Test.YtmemkoiooanhkaaDiskWalkI
import Derived.Test.YtmemkoiooanhkaaStr
import Derived.Deep.RegionHeld
namespace Go.Proofs.Ytmemkoiooanhkaa
open Go.RowKit DiskP

theorem rotE_at (d : Dsk) (n bit : Nat) (s : Sect) (h : d.has n = true) (hb : bit < 8 * d.size) (ho : d.off = false) (ht : d.told[n]? = some s) : d.rotE n bit = if s.bytes.isNone then 9 else if s.rot then 11 else 0 := by
  unfold Dsk.rotE
  rw [h, if_neg (by decide), if_neg (by omega), if_neg (by omega), ho, if_neg (by decide), Int.toNat_natCast, ht]
def rotsS (k : Nat) (x : UInt8) (fl : Bool) : Dsk := if fl then ((newD 4 16).writeS (k : Int) (List.replicate 16 x)).flushS else (newD 4 16).writeS (k : Int) (List.replicate 16 x)
structure RotsOK (k : Nat) (x : UInt8) (at_ : Nat) (S : Dsk) : Prop where
  e2 : S.rotE k at_ = 0
  e3 : (S.rotS k at_).rotE k at_ = 11
  e4 : (S.rotS k at_).rotE k 128 = 1
  e5 : (S.rotS k at_).readE k = 0
  l5 : (S.rotS k at_).readL k = turnBit (List.replicate 16 x) at_
  w3 : (S.rotS k at_).wait.length ≤ 10
  e6 : ((S.rotS k at_).writeS k (List.replicate 16 x)).readE k = 0
  l6 : ((S.rotS k at_).writeS k (List.replicate 16 x)).readL k = List.replicate 16 x
  i6 : (S.rotS k at_).writeE k (List.replicate 16 x) = 0
  r6 : ((S.rotS k at_).writeS k (List.replicate 16 x)).rotE k at_ = 0
theorem write_then (d : Dsk) (n : Nat) (l : List UInt8) (hn : n < d.last.length) (hl : l.length = d.size) (ho : d.off = false) :
    d.writeE n l = 0 ∧ (d.writeS n l).readE n = 0 ∧ (d.writeS n l).readL n = l ∧ ∀ bit : Nat, bit < 8 * d.size → (d.writeS n l).rotE n bit = 0 := by
  have hh : d.has n = true := by simp [Dsk.has]; omega
  have e : d.writeE n l = 0 := by unfold Dsk.writeE; rw [hh, ho]; simp [hl]
  have e2 : d.writeS n l = d.write n l := if_pos e
  have ht : (d.write n l).told[n]? = some ⟨some l, false⟩ := by
    show (applyW d.last (d.wait ++ [(n, ⟨some l, false⟩)]))[n]? = _
    rw [toldW_snoc, List.getElem?_set_self (by rw [applyW_length]; exact hn)]
  have hh2 : (d.write n l).has n = true := hh
  have hr : (d.write n l).readE n = 0 := by
    unfold Dsk.readE
    rw [hh2, if_neg (by decide), show (d.write n l).off = false from ho, if_neg (by decide), Int.toNat_natCast, ht]
    rfl
  rw [e2]
  refine ⟨e, hr, ?_, fun bit hb => rotE_at _ _ _ _ hh2 hb ho ht⟩
  unfold DiskP.Dsk.readL
  rw [hr, if_pos rfl, Int.toNat_natCast]
  unfold Dsk.readB
  rw [ht]
  rfl
theorem rots_ok (k : Nat) (x : UInt8) (fl : Bool) (at_ : Nat) (hk : k < 4) (ha : at_ < 128) : RotsOK k x at_ (rotsS k x fl) := by
  have : k = 0 ∨ k = 1 ∨ k = 2 ∨ k = 3 := by omega
  have e2 : (rotsS k x fl).rotE k at_ = 0 := by
    rcases this with rfl | rfl | rfl | rfl <;> cases fl <;> exact rotE_at _ _ _ ⟨some (List.replicate 16 x), false⟩ rfl ha rfl rfl
  have e2' : (rotsS k x fl).rotS k at_ = (rotsS k x fl).rotted k at_ := if_pos e2
  have hd : k < ((rotsS k x fl).rotted k at_).last.length ∧ ((rotsS k x fl).rotted k at_).size = 16 ∧ ((rotsS k x fl).rotted k at_).off = false ∧ ((rotsS k x fl).rotted k at_).wait.length ≤ 10 ∧
      ((rotsS k x fl).rotted k at_).told[k]? = some ⟨some (turnBit (List.replicate 16 x) at_), true⟩ := by
    rcases this with rfl | rfl | rfl | rfl <;> cases fl <;> exact ⟨Nat.le_of_ble_eq_true rfl, rfl, rfl, Nat.le_of_ble_eq_true rfl, rfl⟩
  generalize (rotsS k x fl).rotted k at_ = d at e2' hd
  obtain ⟨h1, h2, h3, h4, h5⟩ := hd
  have hh : d.has k = true := by simp [Dsk.has]; omega
  obtain ⟨w0, w1, w2, w3⟩ := write_then d k (List.replicate 16 x) h1 (by rw [h2]; simp) h3
  have hr : d.readE k = 0 := by
    unfold Dsk.readE
    rw [hh, if_neg (by decide), h3, if_neg (by decide), Int.toNat_natCast, h5]
    rfl
  refine ⟨e2, ?_, ?_, ?_, ?_, ?_, ?_, ?_, ?_, ?_⟩ <;> rw [e2']
  · exact rotE_at d k at_ _ hh (by omega) h3 h5
  · unfold Dsk.rotE
    rw [hh, h2]
    rfl
  · exact hr
  · unfold DiskP.Dsk.readL
    rw [hr, if_pos rfl, Int.toNat_natCast]
    unfold Dsk.readB
    rw [h5]
    rfl
  · exact h4
  · exact w1
  · exact w2
  · exact w0
  · exact w3 at_ (by omega)
theorem rotS_no (d : Dsk) (n bit : Int) (h : d.rotE n bit ≠ 0) : d.rotS n bit = d := if_neg h
theorem RV.kept {w w' : World} {F : Nat → Prop} {A : Option Addr} {vs : List Value} (h : RV w A vs) (hk : Kept F w w') (hA : ∀ a, A = some a → ¬ F a.block) : RV w' A vs := by
  intro hl
  obtain ⟨b, off, e, hb, hc⟩ := h hl
  refine ⟨b, off, e, Nat.lt_of_lt_of_le hb hk.size, fun j c hj => ?_⟩
  have := hk.block b hb (hA _ e)
  rw [← hc j c hj]
  unfold World.cell?
  rw [this]
theorem turn_get (x : UInt8) (m q j : Nat) (hj : j < m) : (cB (turnBit (List.replicate m x) q))[j]? = some (byteV (if j = q / 8 then x ^^^ UInt8.ofNat (2 ^ (q % 8)) else x)) := by
  unfold turnBit cB
  rw [List.getElem?_map, List.getElem?_set]
  by_cases e : q / 8 = j
  · subst e
    simp [hj, List.getD]
  · rw [if_neg e, if_neg (fun h => e h.symm)]
    simp [hj]
set_option maxHeartbeats 1600000 in
theorem diskRots_walk (n : UInt8) (b : Nat) (x : UInt8) (fl : Bool) (w : World) (hb : b < 65536) :
    Calls Try.prog 6 #[.int .u8 (n.toNat : Int), .int .u16 (b : Int), .int .u8 (x.toNat : Int), .bool fl] w fun e w' => e = .returned (.bool true) ∧ Below w.heap.size w w' := by
  have hn : n.toNat < 256 := n.toNat_lt
  have hx : x.toNat < 256 := x.toNat_lt
  obtain ⟨k, hk, hk4⟩ : ∃ k : Nat, (n.toNat : Int) % 4 = (k : Int) ∧ k < 4 := ⟨n.toNat % 4, by omega, by omega⟩
  obtain ⟨q, hq, hq4⟩ : ∃ q : Nat, (b : Int) % 128 = (q : Int) ∧ q < 128 := ⟨b % 128, by omega, by omega⟩
  have R := rots_ok k x fl q hk4 hq4
  go_enter Try.func6, Try.ntmps6
  go_wp2_with fail
  refine (alive_calls w).mono ?_
  rintro e w0 ⟨rfl, b0⟩
  go_wp2_with fail
  refine (new_calls 4 16 w0 (by omega) (by omega) (by omega) (by omega)).mono ?_
  rintro e w1 ⟨y1, rfl, h1, a1, _, _, b1⟩
  go_wp2_with fail
  refine (filled_calls 16 x w1 (by omega)).mono ?_
  rintro e w2 ⟨g2, rfl, o2, b2⟩
  rw [show (List.replicate 16 x).length = 16 by simp] at o2
  rw [show (List.replicate 16 x).length = 16 by simp]
  have h2 := h1.below b2
  go_wp2_with fail
  try rw [hk]
  refine (write_at y1 (k : Int) (List.replicate 16 x) 16 _ _ w2 w0.heap.size h2 (RV.of_own o2) (by simp) (by omega) (by rw [wlen, a1]; simp [newD])).mono ?_
  rintro e w5 ⟨rfl, y5, h5, a5, d5, k5, f5⟩
  rw [show y1.abs.writeE (k : Int) (List.replicate 16 x) = 0 by rw [a1]; exact (own_S1 k x hk4).1]
  rw [a1] at a5
  rw [← d5]
  have b5 : Below w0.heap.size w0 w5 := (b1.trans (b2.mono b1.size)).trans (k5.below (fun j _ hj => (h1.foot_lt hj).1) (Nat.le_trans b1.size b2.size))
  clear d5 h1 h2 a1 b1 b2 o2 k5 f5
  cases fl
  case' false =>
    replace a5 : y5.abs = rotsS k x false := a5
    go_wp2_with fail
  case' true =>
    have hw3 : y5.wp.length ≤ 1000000000 := by rw [wlen, a5]; have := (own_S1 k x hk4).2.2.2.1; omega
    go_wp2_with fail
    refine (flush_calls y5 w5 w0.heap.size h5 hw3).mono ?_
    rintro e w5' ⟨rfl, y5', h5', a5', d5, k5, _⟩
    replace a5' : y5'.abs = rotsS k x true := by rw [a5', a5]; rfl
    rw [← d5]
    have b5' := b5.trans (k5.below (fun j _ hj => (h5.foot_lt hj).1) b5.size)
    clear d5 h5 a5 b5 k5 hw3
    have h5 := h5'
    have a5 := a5'
    have b5 := b5'
    clear h5' a5' b5'
    revert h5 a5 b5
    generalize y5' = y5
    generalize w5' = w5
    intro h5 a5 b5
    go_wp2_with fail
  all_goals
    try rw [hk]
    try rw [hq]
    refine (rot_calls y5 (k : Int) (q : Int) w5 w0.heap.size h5).mono ?_
    rintro e w6 ⟨rfl, y6, h6, a6, d6, k6, _⟩
    rw [show y5.abs.rotE (k : Int) (q : Int) = 0 by rw [a5]; exact R.e2, ← d6]
    rw [a5] at a6
    have b6 := b5.trans (k6.below (fun j _ hj => (h5.foot_lt hj).1) b5.size)
    clear d6 h5 a5 b5 k6
    go_wp2_with fail
    try rw [hk]
    try rw [hq]
    refine (rot_calls y6 (k : Int) (q : Int) w6 w0.heap.size h6).mono ?_
    rintro e w7 ⟨rfl, y7, h7, a7, d7, k7, _⟩
    have e7 : y6.abs.rotE (k : Int) (q : Int) = 11 := by rw [a6]; exact R.e3
    rw [e7, ← d7]
    rw [rotS_no _ _ _ (by rw [e7]; decide), a6] at a7
    have b7 := b6.trans (k7.below (fun j _ hj => (h6.foot_lt hj).1) b6.size)
    clear d7 h6 a6 b6 k7 e7
    go_wp2_with fail
    try rw [hk]
    refine (rot_calls y7 (k : Int) 128 w7 w0.heap.size h7).mono ?_
    rintro e w8 ⟨rfl, y8, h8, a8, d8, k8, _⟩
    have e8 : y7.abs.rotE (k : Int) 128 = 1 := by rw [a7]; exact R.e4
    rw [e8, ← d8]
    rw [rotS_no _ _ _ (by rw [e8]; decide), a7] at a8
    have b8 := b7.trans (k8.below (fun j _ hj => (h7.foot_lt hj).1) b7.size)
    clear d8 h7 a7 b7 k8 e8
    go_wp2_with fail
    try rw [hk]
    refine (read_calls y8 (k : Int) w8 w0.heap.size h8).mono ?_
    rintro e w9 ⟨v9, rfl, o9, b9⟩
    have h9 := h8.below b9
    have b9' := b8.trans (b9.mono b8.size)
    rw [a8, R.l5] at o9
    rw [show y8.abs.readE (k : Int) = 0 by rw [a8]; exact R.e5]
    have hlen : (turnBit (List.replicate 16 x) q).length = 16 := by simp [turnBit]
    rw [hlen] at o9
    obtain ⟨A9, c9, hv, _, _⟩ := own_form o9
    subst hv
    obtain ⟨g9, off, rfl, _, hc9⟩ := (RV.of_own o9) (by rw [← List.length_pos_iff, cB_len, hlen]; omega)
    have hcc : ∀ j : Nat, j < 16 → w9.cell? ⟨g9, off + j, none⟩ = some (byteV (if j = q / 8 then x ^^^ UInt8.ofNat (2 ^ (q % 8)) else x)) := fun j hj => hc9 j _ (turn_get x 16 q j hj)
    obtain ⟨z, HZ⟩ : ∃ z, Hid (x ^^^ UInt8.ofNat (2 ^ (q % 8)) = z) := ⟨_, rfl⟩
    have hX : bits .xor .u8 (x.toNat : Int) ((2 : Int) ^ (q % 8) % 256) = (z.toNat : Int) := by
      have := xor_bit x (q % 8)
      rw [HZ.out] at this
      injection this
    rw [HZ.out] at hcc
    clear o9 hc9 h8 b8 b9 hlen
    go_wp2
    go_loop [15, 16, 70] (fun _ _ i => ∃ j : Nat, j ≤ 16 ∧ i = .int .i64 j) (fun _ _ i => 16 - (intOf i).toNat)
    case atStart => exact ⟨0, by omega, rfl⟩
    case round =>
      obtain ⟨j, hj, rfl⟩ := hrel
      by_cases hlt : j < 16
      · have hdec : decide ((j : Int) < 16) = true := by simp; omega
        have hcj := hcc j hlt
        clear hcc
        by_cases hjq : j = q / 8
        · rw [if_pos hjq] at hcj
          unfold byteV at hcj
          have hd : ((j : Int) == ((q / 8 : Nat) : Int)) = true := by rw [hjq]; simp
          clear hjq
          go_wp2
          go_round
          case rel => exact ⟨j + 1, by omega, by go_num⟩
          case measure => simp [intOf]; omega
        · rw [if_neg hjq] at hcj
          unfold byteV at hcj
          have hd : ((j : Int) == ((q / 8 : Nat) : Int)) = false := by simp; omega
          clear hjq
          go_wp2
          go_round
          case rel => exact ⟨j + 1, by omega, by go_num⟩
          case measure => simp [intOf]; omega
      · obtain rfl : j = 16 := by omega
        rw [show ((16 : Nat) : Int) = 16 from rfl]
        clear hcc hX
        go_wp2_with fail
        refine (filled_calls 16 x w9 (by omega)).mono ?_
        rintro e w10 ⟨g10, rfl, o10, b10⟩
        rw [show (List.replicate 16 x).length = 16 by simp] at o10
        rw [show (List.replicate 16 x).length = 16 by simp]
        have h10 := h9.below b10
        have b10' := b9'.trans (b10.mono b9'.size)
        go_wp2_with fail
        try rw [hk]
        refine (write_at y8 (k : Int) (List.replicate 16 x) 16 _ _ w10 w0.heap.size h10 (RV.of_own o10) (by simp) (by omega) (by rw [wlen, a8]; have := R.w3; omega)).mono ?_
        rintro e w11 ⟨rfl, y11, h11, a11, d11, k11, _⟩
        rw [show y8.abs.writeE (k : Int) (List.replicate 16 x) = 0 by rw [a8]; exact R.i6]
        rw [a8] at a11
        rw [← d11]
        have b11 := b10'.trans (k11.below (fun j _ hj => (h9.foot_lt hj).1) b10'.size)
        clear d11 h9 h10 a8 b9' b10 b10' k11 o10
        go_wp2_with fail
        try rw [hk]
        refine (read_calls y11 (k : Int) w11 w0.heap.size h11).mono ?_
        rintro e w12 ⟨v12, rfl, o12, b12⟩
        have h12 := h11.below b12
        have b12' := b11.trans (b12.mono b11.size)
        rw [a11, R.l6, show (List.replicate 16 x).length = 16 by simp] at o12
        rw [show y11.abs.readE (k : Int) = 0 by rw [a11]; exact R.e6]
        obtain ⟨A12, c12, hv, _, _⟩ := own_form o12
        subst hv
        have rb12 : RB w12 A12 (List.replicate 16 x) := RV.of_own o12
        have r12 : y11.abs.rotE (k : Int) (q : Int) = 0 := by rw [a11]; exact R.r6
        have nf : Hid (∀ a, A12 = some a → ¬ y11.foot a.block) := by
          show ∀ a, A12 = some a → ¬ y11.foot a.block
          rintro a rfl hf
          have h1 := (h11.foot_lt hf).2
          rcases o12.2 with ⟨e, _⟩ | ⟨g, _, _, e, hg, _⟩
          · cases e
          · injection e with e
            injection e with e
            subst e
            exact absurd h1 (Nat.not_lt.2 hg)
        clear o12 a11 h11 b11 b12
        obtain ⟨L, HL⟩ : ∃ L, Hid (List.replicate 16 x = L) := ⟨_, rfl⟩
        have HF : ∀ w, Hid (Calls Try.prog 13 #[.int .i64 16, .int .u8 (x.toNat : Int)] w fun e w' => ∃ g, e = .returned (.slice (some ⟨g, 0, none⟩) 16 16) ∧ RB w' (some ⟨g, 0, none⟩) L ∧ Below w.heap.size w w') := by
          intro w
          show Calls _ _ _ _ _
          rw [← HL.out]
          refine (filled_calls 16 x w (by omega)).mono ?_
          rintro e w' ⟨g, rfl, o, bb⟩
          rw [show (List.replicate 16 x).length = 16 by simp] at o
          exact ⟨g, by simp, RV.of_own o, bb⟩
        have hl16 : L.length = 16 := by rw [← HL.out]; simp
        rw [HL.out] at rb12
        clear HL R
        have cv : (convert 35 9 (.slice A12 16 c12)).run Try.prog w12.drew = .ok (.string (bstr L)) w12.drew := run_str _ _ _ _ Try.underlying35 Try.underlying5 Try.underlying9 A12 L 16 c12 rb12.drew hl16
        have Hl16 := Lib.hid hl16
        clear hl16
        go_wp2_with fail
        go_region_held (fun wq => (convert 35 9 (.slice A12 16 c12)).run Try.prog wq = .ok (.string (bstr L)) wq) (first | exact cv | exact cv4 | exact cv5) (first
          | (go_at_call 13; refine (HF _).out.mono ?_; rintro e w13 ⟨g13, rfl, o13, b13⟩;
             have cv3 := run_str w13 _ _ _ Try.underlying35 Try.underlying5 Try.underlying9 (some ⟨g13, 0, none⟩) L 16 16 o13 Hl16.out;
             have cv4 := run_str w13 _ _ _ Try.underlying35 Try.underlying5 Try.underlying9 A12 L 16 c12 (rb12.drew.below b13) Hl16.out;
             have h13 := (h12.below ((Below.refl _ _).drew)).below b13;
             have b13' : Below w0.heap.size w0 w13 := b12'.drew.trans (b13.mono b12'.size);
             have rb13 := rb12.drew.below b13;
             clear b13 o13)
          | (go_at_call 19; refine (rot_calls y11 (k : Int) (q : Int) _ w0.heap.size h13).mono ?_; rintro e w14 ⟨rfl, y14, _, _, _, k14, _⟩;
             rw [r12]; have cv5 := run_str w14 _ _ _ Try.underlying35 Try.underlying5 Try.underlying9 A12 L 16 c12 (RV.kept rb13 k14 nf.out) Hl16.out; have b14 := b13'.trans (k14.below (fun j _ hj => (h13.foot_lt hj).1) b13'.size)))
        all_goals go_wp2
        all_goals go_ret
        all_goals exact ⟨rfl, b0.trans (b14.mono b0.size)⟩
end Go.Proofs.Ytmemkoiooanhkaa
