/-
  The walks of the document's disk: turned.
-/
import Derived.Test.YtmemkoiooanhkaaRefWalkD
import Derived.Test.YtmemkoiooanhkaaDiskWalkI
namespace Go.Proofs.Ytmemkoiooanhkaa
open Go.RowKit DiskP

theorem turn_all : ∀ r, r < 8 → ∀ n, n < 256 → (n ^^^ 2 ^ r) = if n / 2 ^ r % 2 = 1 then n - 2 ^ r else n + 2 ^ r := of_decide_eq_true (by kernel_rfl)
theorem turn_le : ∀ r, r < 8 → ∀ n, n < 256 → (if n / 2 ^ r % 2 = 1 then 2 ^ r ≤ n else n + 2 ^ r < 256) := of_decide_eq_true (by kernel_rfl)
theorem turn_u8 (c : UInt8) (r : Nat) (hr : r < 8) : (c ^^^ UInt8.ofNat (2 ^ r)).toNat = if c.toNat / 2 ^ r % 2 = 1 then c.toNat - 2 ^ r else c.toNat + 2 ^ r := by
  have h2 : 2 ^ r < 256 := by
    have : 2 ^ r ≤ 2 ^ 7 := Nat.pow_le_pow_right (by omega) (by omega)
    omega
  rw [UInt8.toNat_xor, UInt8.toNat_ofNat', Nat.mod_eq_of_lt h2]
  exact turn_all r hr _ c.toNat_lt
set_option maxHeartbeats 800000 in
theorem turned_calls (l : List UInt8) (A : Option Addr) (cap : Nat) (bit : Nat) (w : World) (hR : RB w A l) (hl : l.length ≤ 4096) (hb : bit < 8 * l.length) :
    Calls Try.prog 32 #[.slice A l.length cap, .int .i64 (bit : Int)] w fun e w' => ∃ g c, e = .returned (.slice (some ⟨g, 0, none⟩) l.length c) ∧ w'.ownsRow w.heap.size 5 1 (.slice (some ⟨g, 0, none⟩) l.length c) l.length (cB (turnBit l bit)) ∧ Below w.heap.size w w' := by
  go_enter Try.func32, Try.ntmps32
  go_wp2_with ((with_reducible show wpList _ _ _ (⟨some 10, _, _, _, _, _⟩ :: _) _ _); refine wpList_append_rv el_u8 rfl (.tmp 8) (.tmp 9) rfl w.heap.size (.slice (some ⟨w.heap.size, 0, none⟩) 0 0) 0 [] rfl (own_empty _ _ _ (by omega)) A l.length cap (cB l) rfl (by rw [cB_len]; omega) ?f1 (cB_one l) ?f2 ?f3 ?f4 ?_)
  case f1 => exact RV.below hR ((Below.refl _ _).alloc (Nat.le_refl _) _)
  case f2 => unfold maxLen; omega
  case f3 => omega
  case f4 => (simp; try omega)
  intro v1 w1 own1 gr1 hv1
  try simp only [Nat.zero_add, List.nil_append] at own1
  obtain ⟨g, k1, hv1f, hg⟩ : ∃ g k1, v1 = .slice (some ⟨g, 0, none⟩) l.length k1 ∧ w.heap.size ≤ g := by
    rcases own1.2 with ⟨_, h0⟩ | ⟨g, cap, cur, hv, hb, _⟩
    · omega
    · exact ⟨g, cap, hv, hb⟩
  have b1 : Below w.heap.size w w1 := ((Below.refl _ _).alloc (Nat.le_refl _) _).grown gr1 (by simp) (fun k hk => by simp [Value.ownBlock] at hk; omega)
  clear gr1 hv1
  subst hv1f
  have hr8 : bit % 8 < 8 := Nat.mod_lt _ (by omega)
  go_wp2
  go_loop [6, 7] (fun p i => ∃ k : Nat, k ≤ bit % 8 ∧ i = .int .i64 k ∧ p = .int .u8 ((2 ^ k : Nat) : Int)) (fun _ i => bit % 8 - (intOf i).toNat)
  case atStart => exact ⟨0, by omega, rfl, rfl⟩
  case round =>
    obtain ⟨k, hk, rfl, rfl⟩ := hrel
    by_cases hlt : k < bit % 8
    · have HP : Hid (((2 ^ (k + 1) : Nat) : Int) = ((2 ^ k : Nat) : Int) * 2) := by show _ = _; rw [Nat.pow_succ]; simp
      have hp : 2 ^ k ≤ 64 := by
        have : 2 ^ k ≤ 2 ^ 6 := Nat.pow_le_pow_right (by omega) (by omega)
        omega
      generalize 2 ^ k = p at *
      have hdec : decide ((k : Int) < (bit : Int) % 8) = true := by simp; omega
      go_wp2
      go_round
      case rel => exact ⟨k + 1, by omega, by go_num, by rw [HP.out]⟩
      case measure => simp [intOf]; omega
    · obtain rfl : k = bit % 8 := by omega
      have hdec : decide (((bit % 8 : Nat) : Int) < (bit : Int) % 8) = false := by simp
      have hp0 : 1 ≤ 2 ^ (bit % 8) := Nat.one_le_two_pow
      have hp : 2 ^ (bit % 8) ≤ 128 := by
        have : 2 ^ (bit % 8) ≤ 2 ^ 7 := Nat.pow_le_pow_right (by omega) (by omega)
        omega
      have hq : bit / 8 < l.length := by omega
      obtain ⟨c, hc⟩ : ∃ c, l[bit / 8]? = some c := ⟨_, List.getElem?_eq_getElem hq⟩
      have hcc : w1.cell? ⟨g, bit / 8, none⟩ = some (.int .u8 (c.toNat : Int)) := by
        have := own1.cells (g := g) rfl (bit / 8) (.int .u8 (c.toNat : Int)) (by simp [cB, hc, byteV])
        rw [add_zero_off] at this
        exact this
      have hz := own1.frozenAt (bit / 8)
      have hT := turn_u8 c (bit % 8) hr8
      have hTl := turn_le (bit % 8) hr8 c.toNat c.toNat_lt
      have hcl := c.toNat_lt
      have hST : ∀ u : Nat, (c ^^^ UInt8.ofNat (2 ^ (bit % 8))).toNat = u → (w1.setCell ⟨g, bit / 8, none⟩ (.int .u8 (u : Int))).ownsRow w.heap.size 5 1 (.slice (some ⟨g, 0, none⟩) l.length k1) l.length (cB (turnBit l bit)) := by
        intro u hu
        have := (own1.stored (bit / 8) (.int .u8 (u : Int))).1
        have e : (cB l).set (bit / 8) (.int .u8 (u : Int)) = cB (turnBit l bit) := by
          unfold turnBit cB
          rw [List.map_set]
          congr 1
          rw [show l.getD (bit / 8) 0 = c by simp [List.getD, hc]]
          unfold byteV
          rw [hu]
        rw [e] at this
        exact this
      generalize 2 ^ (bit % 8) = p at *
      have HR8 := Lib.hid hr8
      by_cases hbit : c.toNat / p % 2 = 1
      · rw [if_pos hbit] at hT hTl
        have HO := Lib.hid (hST _ hT)
        have hbt : ((((c.toNat : Int) / (p : Int)) % 2) == 1) = true := by
          have : ((((c.toNat / p % 2 : Nat)) : Int)) = 1 := by rw [hbit]; rfl
          simpa using this
        have hsub : (c.toNat : Int) - (p : Int) = ((c.toNat - p : Nat) : Int) := by omega
        have HSUB := Lib.hid hsub
        clear hST hT hbit hc hsub own1
        go_wp2
        go_ret
        exact ⟨g, k1, rfl, by rw [HSUB.out]; exact HO.out, b1.setCell hg _⟩
      · rw [if_neg hbit] at hT hTl
        have HO := Lib.hid (hST _ hT)
        have hbt : ((((c.toNat : Int) / (p : Int)) % 2) == 1) = false := by
          have : ¬ ((((c.toNat / p % 2 : Nat)) : Int)) = 1 := by omega
          simpa using this
        have HSUB : Hid ((c.toNat : Int) + (p : Int) = ((c.toNat + p : Nat) : Int)) := by show _ = _; omega
        clear hST hT hbit hc own1
        go_wp2
        go_ret
        exact ⟨g, k1, rfl, by rw [HSUB.out]; exact HO.out, b1.setCell hg _⟩
end Go.Proofs.Ytmemkoiooanhkaa
