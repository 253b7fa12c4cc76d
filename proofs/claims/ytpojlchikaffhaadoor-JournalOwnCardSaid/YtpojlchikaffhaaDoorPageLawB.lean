/-
  Plain laws of records in sectors: a record some of whose sectors are no sectors of it any more is told as none.
-/
import Derived.Test.YtpojlchikaffhaaDoorPageLawA
namespace Go.Proofs.YtpojlchikaffhaaDoor.PageP
open DiskP

/-- One sector more of a record that stands there. -/
theorem get_step (d : Dsk) (a : Nat) (kind : UInt8) (mark : Int) (b : List UInt8) (h19 : 19 ≤ d.size) (hk : kind ≠ 0) (hb : b.length ≤ 1073741824) (h1 : -9223372036854775808 ≤ mark) (h2 : mark ≤ 9223372036854775807) (ho : d.off = false)
    (i fuel : Nat) (hd : Sec) (r : Bool) (hr : d.told[a + i]? = some ⟨some (sect d.size kind mark (b.drop (i * (d.size - 18))) (i == 0)), r⟩) (hi : 0 < i → i * (d.size - 18) < b.length) (hh : 0 < i → hd.kind = kind ∧ hd.mark = mark ∧ hd.left = b.length) :
    ∃ H : Sec, H.kind = kind ∧ H.mark = mark ∧ H.left = b.length ∧ getP d a (fuel + 1) i hd (b.take (i * (d.size - 18))) =
      if b.length ≤ (i + 1) * (d.size - 18) then (0, kind, mark, b, (i : Int) + 1) else getP d a fuel (i + 1) H (b.take ((i + 1) * (d.size - 18))) := by
  obtain ⟨e1, e2⟩ := read_told d (a + i) _ r hr ho
  have hip : i * (d.size - 18) ≤ b.length := by
    by_cases h0 : i = 0
    · subst h0; simp
    · have := hi (by omega); omega
  have hrd := rd_sect d.size kind mark (b.drop (i * (d.size - 18))) (i == 0) h19 hk (by simp; omega) (by
    by_cases h0 : i = 0
    · subst h0; exact .inl rfl
    · refine .inr fun e => ?_
      have := congrArg List.length e
      have := hi (by omega)
      simp at *
      omega) h1 h2
  rw [show ((a + i : Nat) : Int) = (a : Int) + (i : Int) by omega] at e1 e2
  have hout : b.take (i * (d.size - 18)) ++ (b.drop (i * (d.size - 18))).take (d.size - 18) = b.take ((i + 1) * (d.size - 18)) := by
    rw [Nat.add_mul, Nat.one_mul, List.take_add]
  have hol : (b.take (i * (d.size - 18))).length = i * (d.size - 18) := by rw [List.length_take]; omega
  have hleft : (b.drop (i * (d.size - 18))).length = b.length - i * (d.size - 18) := List.length_drop
  have hout2 : (b.take ((i + 1) * (d.size - 18))).length = min ((i + 1) * (d.size - 18)) b.length := List.length_take
  obtain ⟨H, hH⟩ : ∃ H, (if i = 0 then (⟨kind, mark, (b.drop (i * (d.size - 18))).length, i == 0, (b.drop (i * (d.size - 18))).take (d.size - 18)⟩ : Sec) else hd) = H := ⟨_, rfl⟩
  have hHk : H.kind = kind ∧ H.mark = mark ∧ H.left = b.length := by
    by_cases h0 : i = 0
    · rw [if_pos h0] at hH
      subst hH h0
      simp
    · rw [if_neg h0] at hH
      subst hH
      exact hh (by omega)
  obtain ⟨k1, k2, k3⟩ := hHk
  refine ⟨H, k1, k2, k3, ?_⟩
  conv => lhs; unfold getP
  rw [if_neg (by rw [e1]; simp), e2, if_neg (by rw [plain_sect _ _ _ _ _ hk]; simp), hrd]
  simp only
  rw [if_neg (by rintro ⟨h0, hx⟩; subst h0; cases hx), hH]
  rw [if_neg (by
    rintro ⟨h0, hx | hx | hx | hx⟩
    · rw [show (i == 0) = false by simp; omega] at hx; cases hx
    · exact hx k1.symm
    · exact hx k2.symm
    · rw [hleft, hol, k3] at hx; omega), hout, k1, k2, k3]
  by_cases hl : b.length ≤ (i + 1) * (d.size - 18)
  · rw [if_pos (by rw [hout2]; omega), List.take_of_length_le hl, if_pos hl]
  · rw [if_neg (by rw [hout2]; omega), if_neg hl]
/-- With a sector that is none, or of another mark, a record is told as none. -/
theorem get_broken (d : Dsk) (a : Nat) (kind : UInt8) (mark : Int) (b : List UInt8) (nn j : Nat) (h19 : 19 ≤ d.size) (hk : kind ≠ 0) (hb : b.length ≤ 1073741824) (h1 : -9223372036854775808 ≤ mark) (h2 : mark ≤ 9223372036854775807) (ho : d.off = false)
    (hS : ∀ i, i < j → ∃ r, d.told[a + i]? = some ⟨some (sect d.size kind mark (b.drop (i * (d.size - 18))) (i == 0)), r⟩) (hj : j < nn) (hn2 : ∀ i, 1 ≤ i → i < nn → i * (d.size - 18) < b.length)
    (hbad : d.readE ((a : Int) + (j : Int)) ≠ 0 ∨ rd (d.readL ((a : Int) + (j : Int))) = none ∨ (0 < j ∧ ∃ x, rd (d.readL ((a : Int) + (j : Int))) = some x ∧ x.mark ≠ mark)) :
    ∀ (m i fuel : Nat) (hd : Sec), j - i = m → i ≤ j → (0 < i → hd.kind = kind ∧ hd.mark = mark ∧ hd.left = b.length) → (getP d a fuel i hd (b.take (i * (d.size - 18)))).1 ≠ 0 := by
  intro m
  induction m with
  | zero =>
    intro i fuel hd hm hi hh
    obtain rfl : i = j := by omega
    cases fuel with
    | zero => unfold getP; decide
    | succ fuel =>
      unfold getP
      by_cases hE : d.readE ((a : Int) + (i : Int)) ≠ 0
      · rw [if_pos hE]; exact hE
      · rw [if_neg hE]
        by_cases hp : i = 0 ∧ plainB (d.readL ((a : Int) + (i : Int))) = true
        · rw [if_pos hp]; decide
        · rw [if_neg hp]
          rcases hbad with h | h | ⟨h0, x, h, hx⟩
          · exact absurd h hE
          · rw [h]; show (8 : Int) ≠ 0; decide
          · rw [h]
            simp only
            rw [if_neg (by omega), if_neg (show ¬ i = 0 by omega), if_pos ⟨h0, .inr (.inr (.inl (by rw [(hh h0).2.1]; exact hx)))⟩]
            decide
  | succ m ih =>
    intro i fuel hd hm hi hh
    cases fuel with
    | zero => unfold getP; decide
    | succ fuel =>
      obtain ⟨r, hr⟩ := hS i (by omega)
      obtain ⟨H, k1, k2, k3, he⟩ := get_step d a kind mark b h19 hk hb h1 h2 ho i fuel hd r hr (fun h0 => hn2 i h0 (by omega)) hh
      rw [he]
      have := hn2 (i + 1) (by omega) (by omega)
      rw [if_neg (by omega)]
      exact ih (i + 1) fuel H (by omega) (by omega) (fun _ => ⟨k1, k2, k3⟩)
/-- What is told of a record has its head's mark. -/
theorem get_mark (d : Dsk) (at_ : Int) : ∀ (fuel i : Nat) (hd : Sec) (out : List UInt8), 0 < i → (getP d at_ fuel i hd out).1 = 0 → (getP d at_ fuel i hd out).2.2.1 = hd.mark := by
  intro fuel
  induction fuel with
  | zero => intro i hd out hi h; unfold getP at h; cases h
  | succ fuel ih =>
    intro i hd out hi h
    unfold getP at h ⊢
    by_cases hE : d.readE (at_ + (i : Int)) ≠ 0
    · rw [if_pos hE] at h; exact absurd h hE
    · rw [if_neg hE] at h ⊢
      rw [if_neg (by omega)] at h ⊢
      cases hr : rd (d.readL (at_ + (i : Int))) with
      | none => rw [hr] at h; cases h
      | some x =>
        rw [hr] at h
        simp only at h ⊢
        rw [if_neg (by omega)] at h ⊢
        simp only [if_neg (show ¬ i = 0 by omega)] at h ⊢
        split at h
        · cases h
        · rename_i hc
          rw [if_neg hc]
          split at h
          · rename_i hl
            rw [if_pos hl]
          · rename_i hl
            rw [if_neg hl]
            exact ih (i + 1) hd _ (by omega) h
/-- A record whose head is another's has that one's mark, if it is told. -/
theorem get_head (d : Dsk) (at_ : Int) (fuel : Nat) (hd : Sec) (x : Sec) (hx : rd (d.readL at_) = some x) (h : (getP d at_ fuel 0 hd []).1 = 0) : (getP d at_ fuel 0 hd []).2.2.1 = x.mark := by
  cases fuel with
  | zero => unfold getP at h; cases h
  | succ fuel =>
    unfold getP at h ⊢
    rw [show at_ + ((0 : Nat) : Int) = at_ by omega, hx] at h
    rw [show at_ + ((0 : Nat) : Int) = at_ by omega, hx]
    by_cases hE : d.readE at_ ≠ 0
    · rw [if_pos hE] at h; exact absurd h hE
    · rw [if_neg hE] at h ⊢
      split at h
      · cases h
      · rename_i hp
        rw [if_neg hp]
        simp only at h ⊢
        split at h
        · cases h
        · rename_i hf
          rw [if_neg hf]
          rw [if_neg (by omega)] at h ⊢
          simp only [if_true] at h ⊢
          split at h
          · rename_i hl
            rw [if_pos hl]
          · rename_i hl
            rw [if_neg hl]
            exact get_mark d at_ fuel 1 x _ (by omega) h
end Go.Proofs.YtpojlchikaffhaaDoor.PageP
