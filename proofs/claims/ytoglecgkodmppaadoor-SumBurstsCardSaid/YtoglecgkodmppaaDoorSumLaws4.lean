/-
  The walk of the statement SumBursts: it returns true and changes nothing that was there.
-/
import Derived.Test.YtoglecgkodmppaaDoorSumLaws3
namespace Go.Proofs.YtoglecgkodmppaaDoor
open Go.RowKit SumP
attribute [local go_sem] U_not' U_xor U_div2 U_poly U_not

theorem sumBursts_no (l : List UInt8) (A : Option Addr) (cap : Nat) (k : Nat) (turn : BitVec 32) (w : World) (hT : Tab w) (hl : l.length ≤ 9223372036854775807) (_hk : k < 65536)
    (hno : l.length < 4 ∨ 1000 < l.length ∨ turn = 0#32) :
    Calls Tryd.prog 8 #[.slice A l.length cap, .int .u16 (k : Int), .int .u32 (U turn)] w fun e w' => e = .returned (.bool true) ∧ Below w.heap.size w w' := by
  by_cases h4 : l.length < 4
  · have d1 : decide ((l.length : Int) < 4) = true := by simp; omega
    go_enter Tryd.func8, Tryd.ntmps8
    go_wp2_with fail
    refine (wakes_calls w hT).mono ?_
    rintro e w1 ⟨rfl, b1⟩
    go_wp2
    go_ret
    exact ⟨rfl, b1⟩
  · have d1 : decide ((l.length : Int) < 4) = false := by simp; omega
    by_cases h5 : 1000 < l.length
    · have d2 : decide (1000 < (l.length : Int)) = true := by simp; omega
      go_enter Tryd.func8, Tryd.ntmps8
      go_wp2_with fail
      refine (wakes_calls w hT).mono ?_
      rintro e w1 ⟨rfl, b1⟩
      go_wp2
      go_ret
      exact ⟨rfl, b1⟩
    · have d2 : decide (1000 < (l.length : Int)) = false := by simp; omega
      have ht : turn = 0#32 := by rcases hno with h | h | h <;> first | exact h | omega
      have hu : U turn = 0 := by rw [ht]; decide
      go_enter Tryd.func8, Tryd.ntmps8
      go_wp2_with fail
      refine (wakes_calls w hT).mono ?_
      rintro e w1 ⟨rfl, b1⟩
      go_wp2
      go_ret
      exact ⟨rfl, b1⟩

theorem xor_bit (c : UInt8) (r : Nat) : Value.int .u8 (bits .xor .u8 (c.toNat : Int) ((2 : Int) ^ r % 256)) = byteV (c ^^^ UInt8.ofNat (2 ^ r)) := by
  have e : ((2 : Int) ^ r % 256) = (((2 ^ r % 256 : Nat)) : Int) := by simp
  rw [e, u8_xor_nat _ _ c.toNat_lt (Nat.mod_lt _ (by decide))]
  unfold byteV
  rw [UInt8.toNat_xor, UInt8.toNat_ofNat']
theorem cB_set (l : List UInt8) (q : Nat) (c : UInt8) : (cB l).set q (byteV c) = cB (l.set q c) := by simp [cB]
theorem sumBursts_yes (l : List UInt8) (A : Option Addr) (cap : Nat) (k : Nat) (turn : BitVec 32) (w : World) (hT : Tab w) (hR : RB w A l) (hk : k < 65536)
    (h4 : 4 ≤ l.length) (h5 : l.length ≤ 1000) (ht : turn ≠ 0#32) :
    Calls Tryd.prog 8 #[.slice A l.length cap, .int .u16 (k : Int), .int .u32 (U turn)] w fun e w' => e = .returned (.bool true) ∧ Below w.heap.size w w' := by
  have d1 : decide ((l.length : Int) < 4) = false := by simp; omega
  have d2 : decide (1000 < (l.length : Int)) = false := by simp; omega
  have d3 : (U turn == 0) = false := by
    rw [show (0 : Int) = U 0#32 from by decide, U_beq]; simpa using ht
  obtain ⟨at_, hat, hle⟩ : ∃ n : Nat, (k : Int) % (8 * (l.length : Int) - 31) = (n : Int) ∧ n + 32 ≤ 8 * l.length :=
    ⟨k % (8 * l.length - 31), by rw [Int.natCast_emod, Int.natCast_sub (by omega)]; rfl, by have := Nat.mod_lt k (show 0 < 8 * l.length - 31 by omega); omega⟩
  have HN := Lib.hid (burst_ne l at_ turn hle ht)
  go_enter Tryd.func8, Tryd.ntmps8
  go_wp2_with fail
  refine (wakes_calls w hT).mono ?_
  rintro e w1 ⟨rfl, b1⟩
  have hT1 := hT.below b1 hT.lt
  have hR1 := hR.below b1
  have own1 := own_empty w1 (base := w1.heap.size) 5 1 (Nat.le_refl _)
  go_wp2_with (at_builtin; refine wpList_append_rv el_u8 rfl (.tmp 32) (.tmp 33) rfl w1.heap.size _ 0 [] rfl own1 A l.length cap (cB l) rfl ?e1 (hR1.alloc _) (cB_one _) ?e2 ?e3 ?e4 ?_)
  case e1 => rw [cB_len, Nat.mul_one]
  case e2 => unfold maxLen; omega
  case e3 => omega
  case e4 => simp
  intro v3 w3 own3 gr3 _
  have b3 : Below w1.heap.size w1 w3 := ((Below.refl _ _).alloc (Nat.le_refl _) _).grown gr3 (by simp) (fun k hk => (own1.lt k hk).1)
  clear hat own1 gr3 hR1
  obtain ⟨A3, c3, rfl, _, _⟩ := own_form own3
  obtain ⟨g, rfl, hg⟩ : ∃ g, A3 = some ⟨g, 0, none⟩ ∧ w1.heap.size ≤ g := by
    rcases own3.2 with ⟨_, h0⟩ | ⟨g, cap, cur, hv, hg, _⟩
    · omega
    · injection hv with hv; exact ⟨g, hv, hg⟩
  go_wp2_with fail
  go_loopw [9, 10, 35] (fun _ _ i wr => ∃ j : Nat, j ≤ 32 ∧ i = .int .i64 j ∧ wr.ownsRow w1.heap.size 5 1 (.slice (some ⟨g, 0, none⟩) l.length c3) l.length (cB (burst l at_ turn j)) ∧ Below w1.heap.size w1 wr) (fun _ _ i _ => 32 - (intOf i).toNat)
  case atStart => exact ⟨0, by omega, rfl, own3, b3⟩
  case round =>
    clear own3 b3
    obtain ⟨j, hj, rfl, own4, b4⟩ := hrel
    by_cases hlt : j < 32
    · cases hb : turn.getLsbD j
      · have hv : bits .and .u32 (U turn / (2 : Int) ^ j) 1 = 0 := by rw [U_bit, hb]; rfl
        have HB : Hid (burst l at_ turn (j + 1) = burst l at_ turn j) := by show _ = _; rw [burst, hb]; rfl
        clear hb
        go_wp2
        go_roundw
        case rel => exact ⟨j + 1, by omega, by go_num, by rw [HB.out]; exact own4, b4⟩
        case measure => simp [intOf]; omega
      · have hv : bits .and .u32 (U turn / (2 : Int) ^ j) 1 = 1 := by rw [U_bit, hb]; rfl
        have HB : Hid (burst l at_ turn (j + 1) = flip (burst l at_ turn j) (at_ + j)) := by show _ = _; rw [burst, hb]; rfl
        clear hb
        have hq : (at_ + j) / 8 < l.length := by omega
        have hbl : (burst l at_ turn j).length = l.length := burst_length _ _ _ _
        obtain ⟨c, HC⟩ : ∃ c, Hid ((burst l at_ turn j).getD ((at_ + j) / 8) 0 = c) := ⟨_, rfl⟩
        have hcell : wr.cell? ⟨g, (at_ + j) / 8, none⟩ = some (.int .u8 (c.toNat : Int)) := by
          rw [own4.cellAt _ (by omega)]
          have h' : (at_ + j) / 8 < (cB (burst l at_ turn j)).length := by rw [cB_len, hbl]; exact hq
          rw [List.getElem?_eq_getElem h', cB_get, ← HC.out]
          congr 3
          simp [List.getD, hbl, hq]
        have hfz := own4.frozenAt ((at_ + j) / 8)
        clear hbl
        have hdec : decide ((j : Int) < 32) = true := by simp; omega
        go_wp2
        go_region
        all_goals go_wp2
        have HV : Hid (Value.int .u8 (bits .xor .u8 (c.toNat : Int) ((2 : Int) ^ ((at_ + j) % 8) % 256)) = byteV (c ^^^ UInt8.ofNat (2 ^ ((at_ + j) % 8)))) := xor_bit c _
        have HO := (own4.stored ((at_ + j) / 8) (byteV (c ^^^ UInt8.ofNat (2 ^ ((at_ + j) % 8))))).1
        rw [show (cB (burst l at_ turn j)).set ((at_ + j) / 8) (byteV (c ^^^ UInt8.ofNat (2 ^ ((at_ + j) % 8)))) = cB (burst l at_ turn (j + 1)) by rw [HB.out]; unfold SumP.flip; rw [HC.out, cB_set]] at HO
        rw [HV.out]
        go_roundw
        case rel => exact ⟨j + 1, by omega, by go_num, HO.drew, (b4.setCell hg _).drew⟩
        case measure => simp [intOf]; omega
    · obtain rfl : j = 32 := by omega
      have hR5 : RB wr (some ⟨g, 0, none⟩) (burst l at_ turn 32) := RV.of_own own4
      have hT5 := hT1.below b4 hT1.lt
      have hR1 := (hR.below b1).below b4
      have b5 := b1.trans (b4.mono b1.size)
      have hne : (U (more 0#32 (burst l at_ turn 32)) != U (more 0#32 l)) = true := by
        rw [bne_iff_ne]; exact fun h => HN.out (U_inj h)
      rw [show ((32 : Nat) : Int) = 32 from rfl]
      go_wp2_with fail
      refine (of_at (burst l at_ turn 32) l.length _ _ _ hT5 (burst_length _ _ _ _) (by omega) hR5).mono ?_
      rintro e w' ⟨rfl, rfl⟩
      go_wp2_with fail
      refine (of_calls l A cap _ hT5 (by omega) hR1).mono ?_
      rintro e w' ⟨rfl, rfl⟩
      go_wp2
      go_ret
      exact ⟨rfl, b5⟩

theorem sumBursts_walk (l : List UInt8) (A : Option Addr) (cap : Nat) (k : Nat) (turn : BitVec 32) (w : World) (hT : Tab w) (hl : l.length ≤ 9223372036854775807) (hR : RB w A l) (hk : k < 65536) :
    Calls Tryd.prog 8 #[.slice A l.length cap, .int .u16 (k : Int), .int .u32 (U turn)] w fun e w' => e = .returned (.bool true) ∧ Below w.heap.size w w' := by
  by_cases h : l.length < 4 ∨ 1000 < l.length ∨ turn = 0#32
  · exact sumBursts_no l A cap k turn w hT hl hk h
  · exact sumBursts_yes l A cap k turn w hT hR hk (by omega) (by omega) (fun e => h (.inr (.inr e)))
end Go.Proofs.YtoglecgkodmppaaDoor
