/-
  PageLost in plain words: whatever writes of a record are lost or torn when the power fails, it is told whole, or not at all, where no sector of its mark stood.
-/
import Derived.Test.YtpojlchikaffhaaDoorPageLawC
namespace Go.Proofs.YtpojlchikaffhaaDoor.PageP
open DiskP

theorem secs_succ (size a : Nat) (kind : UInt8) (mark : Int) (b : List UInt8) (k : Nat) : secs size a kind mark b (k + 1) = secs size a kind mark b k ++ [(a + k, ⟨some (sect size kind mark (b.drop (k * (size - 18))) (k == 0)), false⟩)] := by
  simp [secs, List.range_succ]
theorem secs_len (size a : Nat) (kind : UInt8) (mark : Int) (b : List UInt8) (k : Nat) : (secs size a kind mark b k).length = k := by simp [secs]
theorem secs_fst {size a : Nat} {kind : UInt8} {mark : Int} {b : List UInt8} {k : Nat} {x : Nat × Sect} (h : x ∈ secs size a kind mark b k) : a ≤ x.1 ∧ x.1 < a + k := by
  simp only [secs, List.mem_map, List.mem_range] at h
  obtain ⟨i, hi, rfl⟩ := h
  exact ⟨by simp, by simp; omega⟩
theorem kept_none (size a : Nat) (kind : UInt8) (mark : Int) (b : List UInt8) (k : Nat) (keep : List Bool) (torn : Int) (z : Sect) (m : Nat) (hm : m < a ∨ a + k ≤ m) : lastW (keepW keep torn z 0 (secs size a kind mark b k)) m = none := by
  refine lastW_none fun x hx => ?_
  obtain ⟨y, hy, he⟩ := keepW_sect hx
  have := secs_fst hy
  omega
theorem kept_at (size a : Nat) (kind : UInt8) (mark : Int) (b : List UInt8) (keep : List Bool) (torn : Int) (z : Sect) : ∀ (k i : Nat), i < k → lastW (keepW keep torn z 0 (secs size a kind mark b k)) (a + i) =
    if (i : Int) = torn then some z else if keep.getD i false then some ⟨some (sect size kind mark (b.drop (i * (size - 18))) (i == 0)), false⟩ else none := by
  intro k
  induction k with
  | zero => intro i hi; omega
  | succ k ih =>
    intro i hi
    rw [secs_succ, keepW_snoc, secs_len, Nat.zero_add]
    by_cases he : i = k
    · subst he
      unfold keep1
      by_cases h1 : (i : Int) = torn
      · rw [if_pos h1, if_pos h1, lastW_snoc, if_pos rfl]
      · rw [if_neg h1, if_neg h1]
        cases h2 : keep.getD i false with
        | true => rw [if_pos rfl, if_pos rfl, lastW_snoc, if_pos rfl]
        | false => simp only [Bool.false_eq_true, if_false, List.append_nil]; exact kept_none size a kind mark b i keep torn z _ (by omega)
    · unfold keep1
      have := ih i (by omega)
      by_cases h1 : (k : Int) = torn
      · rw [if_pos h1, lastW_snoc, if_neg (by simp; omega), this]
      · rw [if_neg h1]
        cases h2 : keep.getD k false with
        | true => rw [if_pos rfl, lastW_snoc, if_neg (by simp; omega), this]
        | false => simp only [Bool.false_eq_true, if_false, List.append_nil]; exact this
theorem told_cut (d : Dsk) (a : Nat) (kind : UInt8) (mark : Int) (b : List UInt8) (nn : Nat) (keep : List Bool) (torn : Int) (ho : d.off = false) (hw : d.wait = []) (ha : a + nn ≤ d.last.length) (i : Nat) (hi : i < nn) :
    ((putD d a kind mark b nn).cut keep torn).on.told[a + i]? = some tornS ∨ ((putD d a kind mark b nn).cut keep torn).on.told[a + i]? = some ⟨some (sect d.size kind mark (b.drop (i * (d.size - 18))) (i == 0)), false⟩ ∨
      ((putD d a kind mark b nn).cut keep torn).on.told[a + i]? = d.told[a + i]? := by
  have e : ((putD d a kind mark b nn).cut keep torn).on = ⟨d.size, applyW d.last (keepW keep torn tornS 0 (secs d.size a kind mark b nn)), [], false⟩ := by
    unfold Dsk.cut putD Dsk.on
    simp [ho, hw]
  rw [e]
  have e2 : Dsk.told ⟨d.size, applyW d.last (keepW keep torn tornS 0 (secs d.size a kind mark b nn)), [], false⟩ = applyW d.last (keepW keep torn tornS 0 (secs d.size a kind mark b nn)) := rfl
  have e3 : d.told = d.last := by unfold Dsk.told; rw [hw]; rfl
  rw [e2, e3, applyW_get _ _ _ (show a + i < d.last.length by omega), kept_at d.size a kind mark b keep torn tornS nn i hi]
  by_cases h1 : (i : Int) = torn
  · rw [if_pos h1]; exact .inl rfl
  · rw [if_neg h1]
    cases h2 : keep.getD i false with
    | true => rw [if_pos rfl]; exact .inr (.inl rfl)
    | false => simp only [Bool.false_eq_true, if_false]; exact .inr (.inr (by rw [List.getElem?_eq_getElem (show a + i < d.last.length by omega)]; rfl))
theorem least (P : Nat → Prop) (n : Nat) : (∀ i, i < n → P i) ∨ ∃ j, j < n ∧ ¬ P j ∧ ∀ k, k < j → P k := by
  induction n with
  | zero => exact .inl fun i hi => absurd hi (by omega)
  | succ n ih =>
    rcases ih with h | ⟨j, h1, h2, h3⟩
    · by_cases hp : P n
      · refine .inl fun i hi => ?_
        by_cases he : i = n
        · exact he ▸ hp
        · exact h i (by omega)
      · exact .inr ⟨n, by omega, hp, h⟩
    · exact .inr ⟨j, by omega, h2, h3⟩
theorem get_lost (d : Dsk) (a : Nat) (kind : UInt8) (mark : Int) (b : List UInt8) (nn : Nat) (keep : List Bool) (torn : Int) (ho : d.off = false) (hw : d.wait = []) (ha : a + nn ≤ d.last.length) (hk : kind ≠ 0) (h1 : -9223372036854775808 ≤ mark) (h2 : mark ≤ 9223372036854775807)
    (hn : need d.size b.length = (nn : Int)) (hn1 : 1 ≤ nn) (hold : ∀ (m : Nat) (l : List UInt8) (r : Bool) (x : Sec), d.told[m]? = some ⟨some l, r⟩ → rd l = some x → x.mark ≠ mark) :
    (getR ((putD d a kind mark b nn).cut keep torn).on a).1 ≠ 0 ∨ (getR ((putD d a kind mark b nn).cut keep torn).on a).2.2.1 ≠ mark ∨ getR ((putD d a kind mark b nn).cut keep torn).on a = (0, kind, mark, b, (nn : Int)) := by
  obtain ⟨q1, q2, q3, q4⟩ := need_pos (size := d.size) (bytes := b.length) (by omega)
  obtain ⟨mm, e1, e2, e3, e4⟩ := need_nat d.size b.length (by omega)
  have : mm = nn := by omega
  subst this
  have T := fun i hi => told_cut d a kind mark b mm keep torn ho hw ha i hi
  have hsz : ((putD d a kind mark b mm).cut keep torn).on.size = d.size := by unfold Dsk.cut putD Dsk.on; simp [ho]
  have hoff : ((putD d a kind mark b mm).cut keep torn).on.off = false := rfl
  have hlen : ((putD d a kind mark b mm).cut keep torn).on.last.length = d.last.length := by unfold Dsk.cut putD Dsk.on; simp [ho, applyW_length]
  generalize ((putD d a kind mark b mm).cut keep torn).on = D at *
  have hhas : D.has a = true := by unfold Dsk.has; simp; omega
  rcases least (fun i => D.told[a + i]? = some ⟨some (sect d.size kind mark (b.drop (i * (d.size - 18))) (i == 0)), false⟩) mm with hall | ⟨j, j1, j2, j3⟩
  · refine .inr (.inr (getR_stands D a kind mark b mm hk h1 h2 hoff (by rw [hsz]; exact e1) e2 (by omega) fun i hi => ⟨false, ?_⟩))
    rw [hsz]
    exact hall i hi
  · have hg : getR D a = getP D a (D.last.length - a) 0 ⟨0, 0, 0, false, []⟩ [] := by
      unfold getR
      rw [if_neg (by rw [hhas]; simp), Int.toNat_natCast]
    rw [hg]
    have hS : ∀ i, i < j → ∃ r, D.told[a + i]? = some ⟨some (sect D.size kind mark (b.drop (i * (D.size - 18))) (i == 0)), r⟩ := fun i hi => ⟨false, by rw [hsz]; exact j3 i hi⟩
    have brk : D.readE ((a : Int) + (j : Int)) ≠ 0 ∨ rd (D.readL ((a : Int) + (j : Int))) = none ∨ (0 < j ∧ ∃ x, rd (D.readL ((a : Int) + (j : Int))) = some x ∧ x.mark ≠ mark) → (getP D a (D.last.length - a) 0 ⟨0, 0, 0, false, []⟩ []).1 ≠ 0 := by
      intro hbad
      have := get_broken D a kind mark b mm j (by omega) hk (by omega) h1 h2 hoff hS j1 (fun i a1 a2 => by rw [hsz]; exact e3 i a1 a2) hbad j 0 (D.last.length - a) ⟨0, 0, 0, false, []⟩ rfl (by omega) (fun h => absurd h (by omega))
      rwa [Nat.zero_mul, List.take_zero] at this
    have hlt : a + j < D.told.length := by rw [told_len]; omega
    have cast : ((a + j : Nat) : Int) = (a : Int) + (j : Int) := by omega
    have torn9 : ∀ r, D.told[a + j]? = some ⟨none, r⟩ → D.readE ((a : Int) + (j : Int)) ≠ 0 := by
      intro r ht
      rw [← cast]
      unfold Dsk.readE
      rw [show D.has ((a + j : Nat) : Int) = true by unfold Dsk.has; simp; omega, hoff, Int.toNat_natCast, ht]
      simp
    rcases T j j1 with h | h | h
    · exact .inl (brk (.inl (torn9 _ h)))
    · exact absurd h j2
    · obtain ⟨s, hs⟩ : ∃ s, D.told[a + j]? = some s := ⟨_, List.getElem?_eq_getElem hlt⟩
      obtain ⟨bs, r⟩ := s
      cases bs with
      | none => exact .inl (brk (.inl (torn9 _ hs)))
      | some l =>
        obtain ⟨f1, f2⟩ := read_told D (a + j) l r hs hoff
        rw [cast] at f1 f2
        cases hr : rd l with
        | none => exact .inl (brk (.inr (.inl (by rw [f2]; exact hr))))
        | some x =>
          have hx := hold (a + j) l r x (by rw [← h]; exact hs) hr
          by_cases h0 : j = 0
          · subst h0
            by_cases hE : (getP D a (D.last.length - a) 0 ⟨0, 0, 0, false, []⟩ []).1 = 0
            · refine .inr (.inl ?_)
              rw [show (a : Int) + ((0 : Nat) : Int) = (a : Int) by omega] at f2
              rw [get_head D a (D.last.length - a) ⟨0, 0, 0, false, []⟩ x (by rw [f2]; exact hr) hE]
              exact hx
            · exact .inl hE
          · exact .inl (brk (.inr (.inr ⟨by omega, x, by rw [f2]; exact hr, hx⟩)))
end Go.Proofs.YtpojlchikaffhaaDoor.PageP
