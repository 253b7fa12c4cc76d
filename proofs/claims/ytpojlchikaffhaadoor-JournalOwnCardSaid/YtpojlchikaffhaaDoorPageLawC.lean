/-
  Plain laws of records in sectors: with a bit turned a sector is none.
-/
import Derived.Test.YtpojlchikaffhaaDoorPageLawB
namespace Go.Proofs.YtpojlchikaffhaaDoor.PageP
open DiskP

theorem beN_inj : ∀ (n : Nat) (a b : List UInt8), a.length = n → b.length = n → beN a = beN b → a = b := by
  intro n
  induction n with
  | zero => intro a b ha hb _; rw [List.length_eq_zero_iff.1 ha, List.length_eq_zero_iff.1 hb]
  | succ n ih =>
    intro a b ha hb h
    obtain ⟨a', x, rfl⟩ : ∃ r' c, a = r' ++ [c] := ⟨a.dropLast, a.getLast (by intro e; subst e; simp at ha), (List.dropLast_concat_getLast _).symm⟩
    obtain ⟨b', y, rfl⟩ : ∃ r' c, b = r' ++ [c] := ⟨b.dropLast, b.getLast (by intro e; subst e; simp at hb), (List.dropLast_concat_getLast _).symm⟩
    rw [beN_snoc, beN_snoc] at h
    have hx := x.toNat_lt
    have hy := y.toNat_lt
    have e1 : beN a' = beN b' := by omega
    have e2 : x.toNat = y.toNat := by omega
    rw [ih a' b' (by simpa using ha) (by simpa using hb) e1, UInt8.toNat_inj.1 e2]
theorem burst_one (l : List UInt8) (at_ k : Nat) (hk : k < 32) : ∀ i, SumP.burst l at_ (BitVec.twoPow 32 k) i = if k < i then turnBit l (at_ + k) else l := by
  intro i
  induction i with
  | zero => rw [if_neg (by omega)]; rfl
  | succ i ih =>
    unfold SumP.burst
    rw [BitVec.getLsbD_twoPow, ih]
    by_cases h : k = i
    · subst h
      rw [if_neg (Nat.lt_irrefl k), if_pos (show (decide (k < 32) && decide (k = k)) = true by simp [hk]), if_pos (show k < k + 1 by omega)]
      rfl
    · rw [if_neg (by simp [h])]
      by_cases h2 : k < i
      · rw [if_pos h2, if_pos (by omega)]
      · rw [if_neg h2, if_neg (by omega)]
theorem turn_sum (l : List UInt8) (bit : Nat) (h : bit < 8 * l.length) (h32 : 32 ≤ 8 * l.length) : SumP.more 0#32 (turnBit l bit) ≠ SumP.more 0#32 l := by
  have key : ∀ at_ k, k < 32 → at_ + 32 ≤ 8 * l.length → at_ + k = bit → SumP.more 0#32 (turnBit l bit) ≠ SumP.more 0#32 l := by
    intro at_ k hk ha hb
    have := SumP.burst_ne l at_ (BitVec.twoPow 32 k) ha (by
      intro e
      have := congrArg (fun x => x.getLsbD k) e
      simp [hk] at this)
    rw [burst_one l at_ k hk, if_pos hk, hb] at this
    exact this
  by_cases hb : bit + 32 ≤ 8 * l.length
  · exact key bit 0 (by omega) hb rfl
  · exact key (8 * l.length - 32) (bit - (8 * l.length - 32)) (by omega) (by omega) (by omega)
theorem xor_ne (c : UInt8) (k : Nat) (h : k < 8) : c ^^^ UInt8.ofNat (2 ^ k) ≠ c := by
  intro e
  have h2 : UInt8.ofNat (2 ^ k) = 0 := by
    have := congrArg (fun x => c ^^^ x) e
    simp only [← UInt8.xor_assoc, UInt8.xor_self, UInt8.zero_xor] at this
    exact this
  have h3 := congrArg UInt8.toNat h2
  rw [UInt8.toNat_ofNat'] at h3
  have hp : 2 ^ k < 256 := Nat.pow_lt_pow_right (by decide) (show k < 8 from h)
  have : 0 < 2 ^ k := Nat.two_pow_pos k
  rw [Nat.mod_eq_of_lt (by simpa using hp)] at h3
  have h0 : (0 : UInt8).toNat = 0 := rfl
  omega
/-- With a bit turned it is no sector of a record. -/
theorem rd_turned (l : List UInt8) (h : 19 ≤ l.length) (hs : beN (l.drop (l.length - 4)) = crc (l.take (l.length - 4))) (bit : Nat) (hb : bit < 8 * l.length) : rd (turnBit l bit) = none := by
  have hl : (turnBit l bit).length = l.length := by unfold turnBit; simp
  have bad : beN ((turnBit l bit).drop (l.length - 4)) ≠ crc ((turnBit l bit).take (l.length - 4)) := by
    by_cases hq : bit / 8 < l.length - 4
    · have e1 : (turnBit l bit).drop (l.length - 4) = l.drop (l.length - 4) := by unfold turnBit; rw [List.drop_set_of_lt hq]
      have e2 : (turnBit l bit).take (l.length - 4) = turnBit (l.take (l.length - 4)) bit := by
        unfold turnBit
        rw [List.take_set]
        congr 2
        simp only [List.getD, List.getElem?_take, if_pos hq]
      rw [e1, e2, hs]
      intro e
      have hT : (l.take (l.length - 4)).length = l.length - 4 := by simp
      exact turn_sum (l.take (l.length - 4)) bit (by rw [hT]; omega) (by rw [hT]; omega) (BitVec.eq_of_toNat_eq e.symm)
    · have e2 : (turnBit l bit).take (l.length - 4) = l.take (l.length - 4) := by unfold turnBit; rw [List.take_set, List.set_eq_of_length_le (by simp; omega)]
      rw [e2, ← hs]
      intro e
      have := beN_inj 4 _ _ (by simp [hl]; omega) (by simp; omega) e
      unfold turnBit at this
      have h2 := congrArg (fun x => x[bit / 8 - (l.length - 4)]?) this
      simp only [List.getElem?_drop] at h2
      rw [show l.length - 4 + (bit / 8 - (l.length - 4)) = bit / 8 by omega, List.getElem?_set_self (by omega), List.getElem?_eq_getElem (by omega)] at h2
      injection h2 with h2
      have h3 : l.getD (bit / 8) 0 = l[bit / 8]'(by omega) := by simp [List.getD, List.getElem?_eq_getElem (show bit / 8 < l.length by omega)]
      rw [h3] at h2
      exact xor_ne _ _ (by omega) h2
  have no : rdOK (turnBit l bit) = false := by
    unfold rdOK
    rw [hl, decide_eq_false bad]
    simp
  unfold rd
  rw [no]
  rfl
theorem sect_sum (size : Nat) (kind : UInt8) (mark : Int) (b : List UInt8) (first : Bool) (h : 19 ≤ size) : beN ((sect size kind mark b first).drop (size - 4)) = crc ((sect size kind mark b first).take (size - 4)) := by
  have hbl := body_len size kind mark b first (by omega)
  have d1 : (sect size kind mark b first).drop (size - 4) = be 4 (crc (body size kind mark b first)) := by unfold sect; rw [← hbl, List.drop_left]
  have d2 : (sect size kind mark b first).take (size - 4) = body size kind mark b first := by unfold sect; rw [← hbl, List.take_left]
  rw [d1, d2, beN_be 4 _ (crc_lt _)]
theorem rd_sect_turned (size : Nat) (kind : UInt8) (mark : Int) (b : List UInt8) (first : Bool) (h : 19 ≤ size) (bit : Nat) (hb : bit < 8 * size) : rd (turnBit (sect size kind mark b first) bit) = none := by
  have hlen := sect_len size kind mark b first (by omega)
  exact rd_turned _ (by omega) (by rw [hlen]; exact sect_sum size kind mark b first h) bit (by omega)
end Go.Proofs.YtpojlchikaffhaaDoor.PageP
