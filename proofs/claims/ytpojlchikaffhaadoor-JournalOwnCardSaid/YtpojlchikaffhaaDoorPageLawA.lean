/-
  Plain laws of records in sectors: a sector that was written is read as it was.
-/
import Derived.Test.YtpojlchikaffhaaDoorJPage
namespace Go.Proofs.YtpojlchikaffhaaDoor.PageP
open DiskP

theorem be_snoc (m n : Nat) : be (m + 1) n = be m (n / 256) ++ [UInt8.ofNat n] := by
  unfold be
  rw [List.range_succ, List.map_append]
  congr 1
  · apply List.map_congr_left
    intro i hi
    rw [List.mem_range] at hi
    rw [Nat.div_div_eq_div_mul, ← Nat.pow_succ', show m + 1 - 1 - i = m - 1 - i + 1 by omega]
  · simp
theorem beN_be (m : Nat) : ∀ n, n < 256 ^ m → beN (be m n) = n := by
  induction m with
  | zero => intro n h; simp at h; subst h; rfl
  | succ m ih =>
    intro n h
    rw [be_snoc, beN_snoc, ih (n / 256) (by rw [Nat.pow_succ] at h; omega), UInt8.toNat_ofNat']
    omega
theorem sg64_mk64 (mark : Int) (h1 : -9223372036854775808 ≤ mark) (h2 : mark ≤ 9223372036854775807) : sg64 (mk64 mark) = mark := by
  unfold sg64 mk64
  split <;> omega
theorem sub_at (a b c : List UInt8) (i j : Nat) (hi : i = a.length) (hj : j = a.length + b.length) : sub (a ++ b ++ c) i j = b := by
  subst hi hj
  unfold sub
  rw [← List.length_append, List.take_left, List.drop_left]
theorem getD_at (a c : List UInt8) (x : UInt8) (i : Nat) (hi : i = a.length) : (a ++ [x] ++ c).getD i 0 = x := by
  subst hi
  simp [List.getD]
theorem plain_zero (n : Nat) : plainB (List.replicate n 0) = true := by simp [plainB]
theorem rd_sect (size : Nat) (kind : UInt8) (mark : Int) (b : List UInt8) (first : Bool) (h : 19 ≤ size) (hk : kind ≠ 0) (hb : b.length ≤ 1073741824) (hf : first = true ∨ b ≠ []) (h1 : -9223372036854775808 ≤ mark) (h2 : mark ≤ 9223372036854775807) :
    rd (sect size kind mark b first) = some ⟨kind, mark, b.length, first, b.take (size - 18)⟩ := by
  have hlen := sect_len size kind mark b first (by omega)
  have hbl := body_len size kind mark b first (by omega)
  have d1 : (sect size kind mark b first).drop (size - 4) = be 4 (crc (body size kind mark b first)) := by unfold sect; rw [← hbl, List.drop_left]
  have d2 : (sect size kind mark b first).take (size - 4) = body size kind mark b first := by unfold sect; rw [← hbl, List.take_left]
  have e : sect size kind mark b first = [kind] ++ be 8 (mk64 mark) ++ be 4 b.length ++ [if first then 1 else 0] ++ b.take (size - 18) ++ List.replicate (size - 18 - (b.take (size - 18)).length) 0 ++ be 4 (crc (body size kind mark b first)) := by
    unfold sect body head
    simp only [List.append_assoc]
  have hC := crc_lt (body size kind mark b first)
  generalize hCC : crc (body size kind mark b first) = C at *
  generalize hZ : List.replicate (size - 18 - (b.take (size - 18)).length) (0 : UInt8) = Z at *
  have hZl : Z.length = size - 18 - (b.take (size - 18)).length := by rw [← hZ, List.length_replicate]
  have hT : (b.take (size - 18)).length = min b.length (size - 18) := by rw [List.length_take, Nat.min_comm]
  have s1 : sub (sect size kind mark b first) 1 9 = be 8 (mk64 mark) := by
    rw [e]; simp only [List.append_assoc]; rw [← List.append_assoc]; exact sub_at _ _ _ _ _ rfl (by simp [be_len])
  have s2 : sub (sect size kind mark b first) 9 13 = be 4 b.length := by
    rw [e]; simp only [List.append_assoc]; rw [← List.append_assoc, ← List.append_assoc]; exact sub_at _ _ _ _ _ (by simp [be_len]) (by simp [be_len])
  have g0 : (sect size kind mark b first).getD 0 0 = kind := by rw [e]; simp
  have g13 : (sect size kind mark b first).getD 13 0 = if first then 1 else 0 := by
    have : sect size kind mark b first = ([kind] ++ be 8 (mk64 mark) ++ be 4 b.length) ++ [if first then 1 else 0] ++ (b.take (size - 18) ++ Z ++ be 4 C) := by rw [e]; simp only [List.append_assoc]
    rw [this]; exact getD_at _ _ _ _ (by simp [be_len])
  have hN : beN (be 4 b.length) = b.length := beN_be 4 _ (by omega)
  have hM : rdMany (sect size kind mark b first) = min b.length (size - 18) := by unfold rdMany; rw [s2, hN, hlen]; congr 1
  have s3 : sub (sect size kind mark b first) 14 (14 + min b.length (size - 18)) = b.take (size - 18) := by
    have : sect size kind mark b first = ([kind] ++ be 8 (mk64 mark) ++ be 4 b.length ++ [if first then 1 else 0]) ++ b.take (size - 18) ++ (Z ++ be 4 C) := by rw [e]; simp only [List.append_assoc]
    rw [this]; exact sub_at _ _ _ _ _ (by simp [be_len]) (by rw [hT]; simp [be_len])
  have s4 : sub (sect size kind mark b first) (14 + min b.length (size - 18)) (size - 4) = Z := by
    have : sect size kind mark b first = ([kind] ++ be 8 (mk64 mark) ++ be 4 b.length ++ [if first then 1 else 0] ++ b.take (size - 18)) ++ Z ++ (be 4 C) := by rw [e]
    rw [this]; exact sub_at _ _ _ _ _ (by rw [← hT]; simp [be_len]; omega) (by rw [hZl]; simp [be_len]; omega)
  have ok : rdOK (sect size kind mark b first) = true := by
    unfold rdOK
    rw [hlen, d1, d2, g0, g13, s2, hM, s4, ← hZ, plain_zero, hN, beN_be 4 C (by omega)]
    have hb' : decide (b.length ≤ 1073741824) = true := decide_eq_true hb
    rw [hCC, hb', decide_eq_true h, decide_eq_true (show C = C from rfl), decide_eq_true hk]
    cases first with
    | true => rfl
    | false =>
      have hne : b.length ≠ 0 := fun e => by rcases hf with hf | hf; cases hf; exact hf (List.length_eq_zero_iff.1 e)
      rw [decide_eq_true hne]
      rfl
  unfold rd rdS
  rw [if_pos ok, g0, s1, s2, g13, hM, s3, hN, beN_be 8 _ (mk64_lt mark), sg64_mk64 mark h1 h2]
  cases first <;> simp
/- ### What is told behind a Put -/
theorem told_write (d : Dsk) (n : Nat) (l : List UInt8) : (d.write n l).told = d.told.set n ⟨some l, false⟩ := toldW_snoc _ _ _
theorem told_len (d : Dsk) : d.told.length = d.last.length := applyW_length _ _
theorem putD_last (d : Dsk) (a : Nat) (kind : UInt8) (mark : Int) (b : List UInt8) (k : Nat) : (putD d a kind mark b k).last = d.last := rfl
theorem told_put (d : Dsk) (a : Nat) (kind : UInt8) (mark : Int) (b : List UInt8) (k i : Nat) (hi : i < k) (ha : a + k ≤ d.last.length) :
    (putD d a kind mark b k).told[a + i]? = some ⟨some (sect d.size kind mark (b.drop (i * (d.size - 18))) (i == 0)), false⟩ := by
  induction k with
  | zero => omega
  | succ k ih =>
    rw [putD_succ, told_write]
    by_cases h : i = k
    · subst h
      rw [List.getElem?_set_self (by rw [told_len, putD_last]; omega)]
    · rw [List.getElem?_set_ne (by omega)]
      exact ih (by omega) (by omega)
theorem told_put_far (d : Dsk) (a : Nat) (kind : UInt8) (mark : Int) (b : List UInt8) (k j : Nat) (hj : j < a ∨ a + k ≤ j) :
    (putD d a kind mark b k).told[j]? = d.told[j]? := by
  induction k with
  | zero => rw [putD_zero]
  | succ k ih =>
    rw [putD_succ, told_write, List.getElem?_set_ne (by omega)]
    exact ih (by omega)
theorem read_told (d : Dsk) (n : Nat) (l : List UInt8) (r : Bool) (h : d.told[n]? = some ⟨some l, r⟩) (ho : d.off = false) : d.readE n = 0 ∧ d.readL n = l := by
  have hlt : n < d.last.length := by
    rw [← told_len]
    exact (List.getElem?_eq_some_iff.1 h).1
  have hh : d.has n = true := by unfold Dsk.has; simp; omega
  have he : d.readE n = 0 := by
    unfold Dsk.readE
    rw [hh, ho, Int.toNat_natCast, h]
    rfl
  refine ⟨he, ?_⟩
  unfold Dsk.readL Dsk.readB
  rw [if_pos he, Int.toNat_natCast, h]
  rfl
theorem plain_sect (size : Nat) (kind : UInt8) (mark : Int) (b : List UInt8) (first : Bool) (hk : kind ≠ 0) : plainB (sect size kind mark b first) = false := by
  unfold sect body head plainB
  simp [hk]
/-- A record stands there: its sectors, one behind the other. -/
def Stands (d : Dsk) (a : Nat) (kind : UInt8) (mark : Int) (b : List UInt8) (nn : Nat) : Prop :=
  ∀ i, i < nn → ∃ r, d.told[a + i]? = some ⟨some (sect d.size kind mark (b.drop (i * (d.size - 18))) (i == 0)), r⟩
theorem get_stands (d : Dsk) (a : Nat) (kind : UInt8) (mark : Int) (b : List UInt8) (nn : Nat) (h19 : 19 ≤ d.size) (hk : kind ≠ 0) (hb : b.length ≤ 1073741824) (h1 : -9223372036854775808 ≤ mark) (h2 : mark ≤ 9223372036854775807) (ho : d.off = false)
    (hS : Stands d a kind mark b nn) (_hn1 : 1 ≤ nn) (hn2 : ∀ i, 1 ≤ i → i < nn → i * (d.size - 18) < b.length) (hn3 : b.length ≤ nn * (d.size - 18)) :
    ∀ (m i fuel : Nat) (hd : Sec), nn - i = m → i < nn → m ≤ fuel → (0 < i → hd.kind = kind ∧ hd.mark = mark ∧ hd.left = b.length) → getP d a fuel i hd (b.take (i * (d.size - 18))) = (0, kind, mark, b, (nn : Int)) := by
  intro m
  induction m with
  | zero => intro i fuel hd hm hi; omega
  | succ m ih =>
    intro i fuel hd hm hi hf hh
    obtain ⟨fuel, rfl⟩ : ∃ f, fuel = f + 1 := ⟨fuel - 1, by omega⟩
    obtain ⟨r, hr⟩ := hS i hi
    obtain ⟨e1, e2⟩ := read_told d (a + i) _ r hr ho
    have hip : i * (d.size - 18) ≤ b.length ∧ (0 < i → i * (d.size - 18) < b.length) := by
      by_cases h0 : i = 0
      · subst h0; simp
      · have := hn2 i (by omega) hi; exact ⟨by omega, fun _ => this⟩
    have hrd := rd_sect d.size kind mark (b.drop (i * (d.size - 18))) (i == 0) h19 hk (by simp; omega) (by
      by_cases h0 : i = 0
      · subst h0; exact .inl rfl
      · refine .inr fun e => ?_
        have := congrArg List.length e
        have := hip.2 (by omega)
        simp at *
        omega) h1 h2
    rw [show ((a + i : Nat) : Int) = (a : Int) + (i : Int) by omega] at e1 e2
    unfold getP
    rw [if_neg (by rw [e1]; simp), e2, if_neg (by rw [plain_sect _ _ _ _ _ hk]; simp), hrd]
    simp only
    have hout : b.take (i * (d.size - 18)) ++ (b.drop (i * (d.size - 18))).take (d.size - 18) = b.take ((i + 1) * (d.size - 18)) := by
      rw [Nat.add_mul, Nat.one_mul, List.take_add]
    have hol : (b.take (i * (d.size - 18))).length = i * (d.size - 18) := by rw [List.length_take]; omega
    rw [if_neg (by rintro ⟨h0, hx⟩; subst h0; cases hx)]
    have hleft : (b.drop (i * (d.size - 18))).length = b.length - i * (d.size - 18) := List.length_drop
    have hout2 : (b.take ((i + 1) * (d.size - 18))).length = min ((i + 1) * (d.size - 18)) b.length := List.length_take
    generalize hH : (if i = 0 then (⟨kind, mark, (b.drop (i * (d.size - 18))).length, i == 0, (b.drop (i * (d.size - 18))).take (d.size - 18)⟩ : Sec) else hd) = H
    have hHk : H.kind = kind ∧ H.mark = mark ∧ H.left = b.length := by
      by_cases h0 : i = 0
      · rw [if_pos h0] at hH
        subst hH h0
        simp
      · rw [if_neg h0] at hH
        subst hH
        exact hh (by omega)
    obtain ⟨k1, k2, k3⟩ := hHk
    rw [if_neg (by
      rintro ⟨h0, hx | hx | hx | hx⟩
      · rw [show (i == 0) = false by simp; omega] at hx; cases hx
      · exact hx k1.symm
      · exact hx k2.symm
      · rw [hleft, hol, k3] at hx; omega), hout, k1, k2, k3]
    by_cases hl : b.length ≤ (i + 1) * (d.size - 18)
    · rw [if_pos (by rw [hout2]; omega), List.take_of_length_le hl]
      have : i + 1 = nn := by
        rcases Nat.lt_or_ge (i + 1) nn with hlt | hge
        · have := hn2 (i + 1) (by omega) hlt; omega
        · omega
      rw [← this]
      rfl
    · rw [if_neg (by rw [hout2]; omega)]
      have hlt : i + 1 < nn := by
        rcases Nat.lt_or_ge (i + 1) nn with hlt | hge
        · exact hlt
        · have : nn * (d.size - 18) ≤ (i + 1) * (d.size - 18) := Nat.mul_le_mul_right _ hge
          omega
      exact ih (i + 1) fuel H (by omega) hlt (by omega) (fun _ => ⟨k1, k2, k3⟩)
/-- What Get tells. -/
def getR (d : Dsk) (at_ : Int) : Int × UInt8 × Int × List UInt8 × Int :=
  if d.has at_ = false then (1, 0, 0, [], 0) else getP d at_ (d.last.length - at_.toNat) 0 ⟨0, 0, 0, false, []⟩ []
theorem need_nat (size len : Nat) (h : 1 ≤ need size len) : ∃ nn : Nat, need size len = (nn : Int) ∧ 1 ≤ nn ∧ (∀ i, 1 ≤ i → i < nn → i * (size - 18) < len) ∧ len ≤ nn * (size - 18) := by
  obtain ⟨h1, h2, h3, h4⟩ := need_pos h
  have hp : 1 ≤ size - 18 := by omega
  unfold need
  rw [if_neg (by omega)]
  have e : ((len : Int) + ((size : Int) - 18) - 1) / ((size : Int) - 18) = (((len + (size - 18) - 1) / (size - 18) : Nat) : Int) := by
    rw [Int.natCast_ediv]
    congr 1 <;> omega
  rw [e]
  generalize hp' : size - 18 = p at *
  have hd := Nat.div_add_mod (len + p - 1) p
  have hm := Nat.mod_lt (len + p - 1) (show 0 < p by omega)
  generalize (len + p - 1) / p = q at *
  generalize (len + p - 1) % p = r at *
  have hq : p * q = q * p := Nat.mul_comm _ _
  split
  · refine ⟨1, rfl, Nat.le_refl _, fun i _ _ => by omega, ?_⟩
    have : q = 0 := by omega
    subst this
    omega
  · refine ⟨q, rfl, by omega, fun i hi hi2 => ?_, by omega⟩
    have : (i + 1) * p ≤ q * p := Nat.mul_le_mul_right _ hi2
    rw [Nat.add_mul] at this
    omega
theorem getR_stands (d : Dsk) (a : Nat) (kind : UInt8) (mark : Int) (b : List UInt8) (nn : Nat) (hk : kind ≠ 0) (h1 : -9223372036854775808 ≤ mark) (h2 : mark ≤ 9223372036854775807) (ho : d.off = false)
    (hn : need d.size b.length = (nn : Int)) (hn1 : 1 ≤ nn) (ha : a + nn ≤ d.last.length) (hS : Stands d a kind mark b nn) : getR d a = (0, kind, mark, b, (nn : Int)) := by
  obtain ⟨q1, q2, q3, q4⟩ := need_pos (size := d.size) (bytes := b.length) (by omega)
  obtain ⟨mm, e1, e2, e3, e4⟩ := need_nat d.size b.length (by omega)
  have : mm = nn := by omega
  subst this
  unfold getR
  rw [if_neg (by unfold Dsk.has; simp; omega)]
  have := get_stands d a kind mark b mm (by omega) hk (by omega) h1 h2 ho hS e2 e3 e4 mm 0 (d.last.length - a) ⟨0, 0, 0, false, []⟩ rfl e2 (by omega) (fun h => absurd h (by omega))
  rw [Nat.zero_mul, List.take_zero] at this
  rw [Int.toNat_natCast]
  exact this
theorem stands_put (d : Dsk) (a : Nat) (kind : UInt8) (mark : Int) (b : List UInt8) (nn : Nat) (ha : a + nn ≤ d.last.length) : Stands (putD d a kind mark b nn) a kind mark b nn := fun i hi => ⟨false, told_put d a kind mark b nn i hi ha⟩
/-- A record that was put is told as it was. -/
theorem getR_put (d : Dsk) (a : Nat) (kind : UInt8) (mark : Int) (b : List UInt8) (h : putE d a kind b.length = 0) (h1 : -9223372036854775808 ≤ mark) (h2 : mark ≤ 9223372036854775807) :
    getR (putS d a kind mark b) a = (0, kind, mark, b, putN d a kind b.length) := by
  unfold putS putN
  rw [if_pos h, if_pos h]
  unfold putE at h
  split at h
  · cases h
  · split at h
    · cases h
    · split at h
      · cases h
      · rename_i n1 n2 n3
        obtain ⟨nn, e1, e2, _⟩ := need_nat d.size b.length (by omega)
        rw [e1, Int.toNat_natCast, Int.toNat_natCast]
        have hk : kind ≠ 0 := fun e => n1 (.inr e)
        have n4 : d.off = false := by simpa using n3
        exact getR_stands (putD d a kind mark b nn) a kind mark b nn hk h1 h2 n4 e1 e2 (by rw [putD_last]; omega) (stands_put d a kind mark b nn (by omega))
end Go.Proofs.YtpojlchikaffhaaDoor.PageP
