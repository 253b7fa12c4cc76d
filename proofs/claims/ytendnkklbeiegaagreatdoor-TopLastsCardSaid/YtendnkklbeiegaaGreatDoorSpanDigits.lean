/-
  Decimal numerals in plain Lean: what is spelt is read back; where a dash stands.
-/
import Derived.Lib.ItoaNum
import Derived.Lib.ParseIntBCases
import Derived.Lib.IndexMore
namespace Go.Proofs.YtendnkklbeiegaaGreatDoor
open Go

theorem dec_digit : ∀ (n : Nat) (c : UInt8), c ∈ Lib.decDigits n → 48 ≤ c.toNat ∧ c.toNat ≤ 57 := by
  intro n
  induction n using Nat.strongRecOn with
  | _ n ih =>
    intro c hc
    rw [Lib.decDigits] at hc
    split at hc
    · rename_i h
      simp only [List.mem_singleton] at hc
      subst hc
      rw [UInt8.toNat_ofNat']
      omega
    · rename_i h
      rcases List.mem_append.1 hc with h1 | h1
      · exact ih _ (by omega) c h1
      · simp only [List.mem_singleton] at h1
        subst h1
        rw [UInt8.toNat_ofNat']
        omega
theorem dec_ne (n : Nat) : Lib.decDigits n ≠ [] := by
  rw [Lib.decDigits]
  split <;> simp
/-- A number read digit by digit. -/
theorem readM_append (M : Nat) : ∀ (l : List UInt8) (acc u : Nat) (c : UInt8), Lib.parseUintM M acc l = .ok u → 48 ≤ c.toNat → c.toNat ≤ 57 → u < 1844674407370955162 → u * 10 + (c.toNat - 48) ≤ M → Lib.parseUintM M acc (l ++ [c]) = .ok (u * 10 + (c.toNat - 48))
  | [], acc, u, c, h, h1, h2, h3, h4 => by
    simp only [Lib.parseUintM] at h
    injection h with h
    subst h
    simp only [List.nil_append, Lib.parseUintM]
    rw [if_pos ⟨h1, h2⟩, if_neg (by omega), if_neg (by omega)]
  | d :: l, acc, u, c, h, h1, h2, h3, h4 => by
    simp only [Lib.parseUintM] at h
    simp only [List.cons_append, Lib.parseUintM]
    split at h
    · rename_i hd
      rw [if_pos hd]
      split at h
      · cases h
      · rename_i hr
        rw [if_neg hr]
        split at h
        · cases h
        · rename_i hs
          rw [if_neg hs]
          exact readM_append M l _ u c h h1 h2 h3 h4
    · cases h
theorem readM_dec (M : Nat) (hM : M = 18446744073709551615) : ∀ n : Nat, n ≤ 9223372036854775807 → Lib.parseUintM M 0 (Lib.decDigits n) = .ok n := by
  intro n
  induction n using Nat.strongRecOn with
  | _ n ih =>
    intro hn
    rw [Lib.decDigits]
    split
    · rename_i h
      have e : (UInt8.ofNat (48 + n)).toNat = 48 + n := by rw [UInt8.toNat_ofNat']; omega
      simp only [Lib.parseUintM]
      rw [e, if_pos (by omega), if_neg (by omega), if_neg (by omega)]
      congr 1
      omega
    · rename_i h
      have e : (UInt8.ofNat (48 + n % 10)).toNat = 48 + n % 10 := by rw [UInt8.toNat_ofNat']; omega
      have := readM_append M (Lib.decDigits (n / 10)) 0 (n / 10) (UInt8.ofNat (48 + n % 10)) (ih _ (by omega) (by omega)) (by omega) (by omega) (by omega) (by omega)
      rw [this]
      congr 1
      omega
theorem parse_dec (n : Nat) (hn : n ≤ 4611686018427387904) : Lib.parseIntB 64 (Lib.decDigits n) = .ok (n : Int) := by
  have hne := dec_ne n
  have hr := readM_dec (2 ^ 64 - 1) (by decide) n (by omega)
  have hd := dec_digit n
  cases hc : Lib.decDigits n with
  | nil => exact absurd hc hne
  | cons c r =>
    rw [hc] at hr hd
    have h1 := hd c (by simp)
    rw [Lib.parseIntB_plain 64 c r (by omega) (by omega)]
    unfold Lib.parseUintB
    rw [if_neg (by simp), hr]
    show (if 2 ^ (64 - 1) ≤ n then _ else _) = _
    rw [if_neg (by have : (2 : Nat) ^ (64 - 1) = 9223372036854775808 := by decide
                   omega)]
theorem parse_itoa (x : Int) (h0 : 0 ≤ x) (h1 : x ≤ 4611686018427387904) : Lib.parseIntB 64 (Lib.itoa x) = .ok x := by
  unfold Lib.itoa
  rw [if_neg (by omega), parse_dec x.toNat (by omega)]
  congr 1
  omega
theorem itoa_digit (x : Int) (h0 : 0 ≤ x) (c : UInt8) (h : c ∈ Lib.itoa x) : 48 ≤ c.toNat ∧ c.toNat ≤ 57 := by
  unfold Lib.itoa at h
  rw [if_neg (by omega)] at h
  exact dec_digit _ c h
end Go.Proofs.YtendnkklbeiegaaGreatDoor
