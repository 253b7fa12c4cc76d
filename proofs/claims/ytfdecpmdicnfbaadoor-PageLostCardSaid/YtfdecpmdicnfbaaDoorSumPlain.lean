/-
  Plain facts on the sum (a CRC over bits, LSB first), no program in sight: one step is linear and one to one; what eight steps by a table of sixteen come to; matrices; bursts.
-/
namespace Go.Proofs.YtfdecpmdicnfbaaDoor.SumP

def poly : BitVec 32 := 0xEDB88320#32
/-- One step: one bit. -/
def st (s : BitVec 32) : BitVec 32 := (s >>> 1) ^^^ (if s.getLsbD 0 then poly else 0#32)
def stN : Nat → BitVec 32 → BitVec 32
  | 0, s => s
  | n + 1, s => stN n (st s)

theorem stN_add (a b : Nat) (s : BitVec 32) : stN (a + b) s = stN b (stN a s) := by
  induction a generalizing s with
  | zero => rw [Nat.zero_add]; rfl
  | succ a ih => rw [Nat.succ_add]; exact ih (st s)
theorem stN_succ (a : Nat) (s : BitVec 32) : stN (a + 1) s = st (stN a s) := stN_add a 1 s

theorem st_xor (a b : BitVec 32) : st (a ^^^ b) = st a ^^^ st b := by
  unfold st
  rw [BitVec.getLsbD_xor, BitVec.ushiftRight_xor_distrib]
  cases a.getLsbD 0 <;> cases b.getLsbD 0
  · simp
  · simp [BitVec.xor_assoc]
  · simp only [Bool.true_bne, Bool.not_false, if_true, Bool.false_eq_true, if_false, BitVec.xor_zero]; ac_rfl
  · simp only [bne_self_eq_false, Bool.false_eq_true, if_false, if_true, BitVec.xor_zero]
    rw [show a >>> 1 ^^^ poly ^^^ (b >>> 1 ^^^ poly) = a >>> 1 ^^^ b >>> 1 ^^^ (poly ^^^ poly) by ac_rfl, BitVec.xor_self, BitVec.xor_zero]
theorem st_zero : st 0#32 = 0#32 := by decide
theorem stN_xor (n : Nat) (a b : BitVec 32) : stN n (a ^^^ b) = stN n a ^^^ stN n b := by
  induction n generalizing a b with
  | zero => rfl
  | succ n ih => show stN n (st (a ^^^ b)) = _; rw [st_xor, ih]; rfl
theorem stN_zero (n : Nat) : stN n 0#32 = 0#32 := by
  induction n with
  | zero => rfl
  | succ n ih => show stN n (st 0#32) = _; rw [st_zero, ih]

/-- The step back. -/
def inv (s : BitVec 32) : BitVec 32 := if s.getLsbD 31 then ((s ^^^ poly) <<< 1) ||| 1#32 else s <<< 1
def invN : Nat → BitVec 32 → BitVec 32
  | 0, s => s
  | n + 1, s => invN n (inv s)
theorem invN_succ (a : Nat) (s : BitVec 32) : invN (a + 1) s = inv (invN a s) := by
  induction a generalizing s with
  | zero => rfl
  | succ a ih => exact ih (inv s)

theorem shl_shr (x : BitVec 32) (h : x.getLsbD 31 = false) : (x <<< 1) >>> 1 = x := by
  apply BitVec.eq_of_getLsbD_eq
  intro i hi
  simp only [BitVec.getLsbD_ushiftRight, BitVec.getLsbD_shiftLeft]
  by_cases h31 : i = 31
  · subst h31; rw [h]; simp
  · have : 1 + i < 32 := by omega
    simp [this]
theorem shl_or_shr (x : BitVec 32) (h : x.getLsbD 31 = false) : ((x <<< 1) ||| 1#32) >>> 1 = x := by
  rw [BitVec.ushiftRight_or_distrib, shl_shr x h]
  have : (1#32) >>> 1 = 0#32 := by decide
  rw [this]; simp
theorem st_inv (s : BitVec 32) : st (inv s) = s := by
  unfold inv
  cases h : s.getLsbD 31
  · rw [if_neg (by simp)]
    unfold st
    rw [shl_shr s h]
    simp
  · rw [if_pos rfl]
    unfold st
    have h' : (s ^^^ poly).getLsbD 31 = false := by
      rw [BitVec.getLsbD_xor, h]; decide
    rw [shl_or_shr _ h']
    have hb : ((s ^^^ poly) <<< 1 ||| 1#32).getLsbD 0 = true := by simp
    rw [hb, if_pos rfl, BitVec.xor_assoc, BitVec.xor_self, BitVec.xor_zero]
theorem stN_invN (n : Nat) (s : BitVec 32) : stN n (invN n s) = s := by
  induction n generalizing s with
  | zero => rfl
  | succ n ih => rw [invN_succ]; show stN n (st (inv (invN n s))) = s; rw [st_inv, ih]

theorem st_eq_zero (s : BitVec 32) (h : st s = 0#32) : s = 0#32 := by
  unfold st at h
  have h31 : ((s >>> 1) ^^^ (if s.getLsbD 0 then poly else 0#32)).getLsbD 31 = false := by rw [h]; decide
  have hs : (s >>> 1).getLsbD 31 = false := by simp
  rw [BitVec.getLsbD_xor, hs] at h31
  cases h0 : s.getLsbD 0
  · rw [h0] at h
    simp at h
    apply BitVec.eq_of_getLsbD_eq
    intro i hi
    cases i with
    | zero => simpa using h0
    | succ i =>
      have : (s >>> 1).getLsbD i = (0#32).getLsbD i := by rw [h]
      rw [BitVec.getLsbD_ushiftRight, Nat.add_comm] at this
      simpa using this
  · rw [h0] at h31
    exact absurd h31 (by decide)
theorem stN_eq_zero (n : Nat) (s : BitVec 32) (h : stN n s = 0#32) : s = 0#32 := by
  induction n generalizing s with
  | zero => exact h
  | succ n ih => exact st_eq_zero s (ih _ h)

/- ### The table -/
def T16 : List (BitVec 32) := [0x00000000#32, 0x1DB71064#32, 0x3B6E20C8#32, 0x26D930AC#32, 0x76DC4190#32, 0x6B6B51F4#32, 0x4DB26158#32, 0x5005713C#32,
  0xEDB88320#32, 0xF00F9344#32, 0xD6D6A3E8#32, 0xCB61B38C#32, 0x9B64C2B0#32, 0x86D3D2D4#32, 0xA00AE278#32, 0xBDBDF21C#32]
def nib (x : BitVec 32) : Nat := x.toNat % 16
def tab (x : BitVec 32) : BitVec 32 := T16.getD (nib x) 0#32
theorem nib_lt (x : BitVec 32) : nib x < 16 := Nat.mod_lt _ (by decide)
theorem st_even (s : BitVec 32) (h : s.getLsbD 0 = false) : st s = s >>> 1 := by unfold st; rw [h]; simp
theorem stN4_high (s : BitVec 32) : stN 4 ((s >>> 4) <<< 4) = s >>> 4 := by
  have e1 : st ((s >>> 4) <<< 4) = ((s >>> 4) <<< 4) >>> 1 := st_even _ (by simp)
  have e2 : st (((s >>> 4) <<< 4) >>> 1) = ((s >>> 4) <<< 4) >>> 2 := by
    rw [st_even _ (by simp), ← BitVec.shiftRight_add]
  have e3 : st (((s >>> 4) <<< 4) >>> 2) = ((s >>> 4) <<< 4) >>> 3 := by
    rw [st_even _ (by simp), ← BitVec.shiftRight_add]
  have e4 : st (((s >>> 4) <<< 4) >>> 3) = ((s >>> 4) <<< 4) >>> 4 := by
    rw [st_even _ (by simp), ← BitVec.shiftRight_add]
  show st (st (st (st _))) = _
  rw [e1, e2, e3, e4]
  apply BitVec.eq_of_getLsbD_eq
  intro i hi
  simp only [BitVec.getLsbD_ushiftRight, BitVec.getLsbD_shiftLeft]
  by_cases h : 4 + i < 32
  · simp [h]
  · have : s.getLsbD (4 + i) = false := BitVec.getLsbD_of_ge _ _ (by omega)
    simp [h, this]
theorem tab_all : ∀ n : Fin 16, stN 4 (BitVec.ofNat 32 n.val) = T16.getD n.val 0#32 := by decide
theorem split4 (s : BitVec 32) : s = BitVec.ofNat 32 (nib s) ^^^ ((s >>> 4) <<< 4) := by
  have hn : BitVec.ofNat 32 (nib s) = s &&& 15#32 := by
    apply BitVec.eq_of_toNat_eq
    rw [BitVec.toNat_ofNat, BitVec.toNat_and]
    have := nib_lt s
    have e : s.toNat &&& 15 = s.toNat % 16 := Nat.and_two_pow_sub_one_eq_mod s.toNat 4
    show nib s % 2 ^ 32 = s.toNat &&& 15
    rw [e, Nat.mod_eq_of_lt (by omega)]; rfl
  rw [hn]
  apply BitVec.eq_of_getLsbD_eq
  intro i hi
  rw [BitVec.getLsbD_xor, BitVec.getLsbD_and]
  simp only [BitVec.getLsbD_ushiftRight, BitVec.getLsbD_shiftLeft]
  by_cases h : i < 4
  · have : (15#32).getLsbD i = true := by
      rcases i with _ | _ | _ | _ | i
      · decide
      · decide
      · decide
      · decide
      · omega
    simp [h, this]
  · have : (15#32).getLsbD i = false := by
      simp only [BitVec.getLsbD_ofNat]
      have : (15 : Nat).testBit i = false := Nat.testBit_lt_two_pow (Nat.lt_of_lt_of_le (by decide : 15 < 2 ^ 4) (Nat.pow_le_pow_right (by decide) (by omega)))
      rw [this]; simp
    rw [this]
    have e : 4 + (i - 4) = i := by omega
    simp [h, hi, e]
theorem four (s : BitVec 32) : tab s ^^^ (s >>> 4) = stN 4 s := by
  have h := tab_all ⟨nib s, nib_lt s⟩
  conv => rhs; rw [split4 s]
  rw [stN_xor, stN4_high]
  congr 1
  exact h.symm
def eight (s : BitVec 32) : BitVec 32 := stN 8 s
theorem eight_by (s : BitVec 32) : tab (tab s ^^^ (s >>> 4)) ^^^ ((tab s ^^^ (s >>> 4)) >>> 4) = eight s := by
  rw [four (tab s ^^^ (s >>> 4)), four s]
  exact (stN_add 4 4 s).symm
theorem eight_xor (a b : BitVec 32) : eight (a ^^^ b) = eight a ^^^ eight b := stN_xor 8 a b
theorem eight_zero : eight 0#32 = 0#32 := stN_zero 8

/- ### Bytes -/
def bv (c : UInt8) : BitVec 32 := BitVec.ofNat 32 c.toNat
def upd (s : BitVec 32) (c : UInt8) : BitVec 32 := eight (s ^^^ bv c)
def raw (s : BitVec 32) (l : List UInt8) : BitVec 32 := l.foldl upd s
def more (s : BitVec 32) (l : List UInt8) : BitVec 32 := ~~~ (raw (~~~ s) l)
theorem raw_append (s : BitVec 32) (a b : List UInt8) : raw s (a ++ b) = raw (raw s a) b := List.foldl_append
theorem more_append (s : BitVec 32) (a b : List UInt8) : more s (a ++ b) = more (more s a) b := by
  unfold more; rw [raw_append, BitVec.not_not]
theorem raw_xor (a b : BitVec 32) (l : List UInt8) : raw (a ^^^ b) l = raw a l ^^^ stN (8 * l.length) b := by
  induction l generalizing a b with
  | nil => rfl
  | cons c l ih =>
    show raw (upd (a ^^^ b) c) l = raw (upd a c) l ^^^ _
    have : upd (a ^^^ b) c = upd a c ^^^ eight b := by
      unfold upd; rw [← eight_xor]; congr 1; ac_rfl
    rw [this, ih, show 8 * (c :: l).length = 8 + 8 * l.length by simp; omega, stN_add]
    rfl

/- ### Bits: a text's, its first byte's lowest bit first -/
def bit1 (b : Bool) : BitVec 32 := if b then 1#32 else 0#32
def rawb (s : BitVec 32) (l : List Bool) : BitVec 32 := l.foldl (fun s b => st (s ^^^ bit1 b)) s
theorem rawb_append (s : BitVec 32) (a b : List Bool) : rawb s (a ++ b) = rawb (rawb s a) b := List.foldl_append
theorem bit1_xor (a b : Bool) : bit1 (a ^^ b) = bit1 a ^^^ bit1 b := by cases a <;> cases b <;> decide
theorem rawb_xor (x y : List Bool) (h : x.length = y.length) (s t : BitVec 32) : rawb (s ^^^ t) (List.zipWith (· ^^ ·) x y) = rawb s x ^^^ rawb t y := by
  induction x generalizing y s t with
  | nil => cases y with
    | nil => rfl
    | cons _ _ => simp at h
  | cons a x ih => cases y with
    | nil => simp at h
    | cons b y =>
      show rawb (st ((s ^^^ t) ^^^ bit1 (a ^^ b))) (List.zipWith (· ^^ ·) x y) = rawb (st (s ^^^ bit1 a)) x ^^^ rawb (st (t ^^^ bit1 b)) y
      rw [← ih y (by simpa using h), ← st_xor, bit1_xor]
      congr 2
      ac_rfl
theorem rawb_zeros (n : Nat) (s : BitVec 32) : rawb s (List.replicate n false) = stN n s := by
  induction n generalizing s with
  | zero => rfl
  | succ n ih =>
    show rawb (st (s ^^^ 0#32)) (List.replicate n false) = stN n (st s)
    rw [ih, BitVec.xor_zero]
def lowbits (k : Nat) (x : BitVec 32) : List Bool := (List.range k).map x.getLsbD
theorem lowbits_succ (k : Nat) (x : BitVec 32) : lowbits (k + 1) x = x.getLsbD 0 :: lowbits k (x >>> 1) := by
  unfold lowbits
  rw [List.range_succ_eq_map, List.map_cons, List.map_map]
  congr 1
  apply List.map_congr_left
  intro i _
  simp [BitVec.getLsbD_ushiftRight, Nat.add_comm]
theorem st_shl (y : BitVec 32) (h : y.getLsbD 31 = false) : st (y <<< 1) = y := by
  rw [st_even _ (by simp), shl_shr y h]
theorem split1 (x : BitVec 32) : x = bit1 (x.getLsbD 0) ^^^ ((x >>> 1) <<< 1) := by
  apply BitVec.eq_of_getLsbD_eq
  intro i hi
  rw [BitVec.getLsbD_xor, BitVec.getLsbD_shiftLeft, BitVec.getLsbD_ushiftRight]
  cases i with
  | zero => cases h : x.getLsbD 0 <;> simp [bit1]
  | succ i =>
    have hb : (bit1 (x.getLsbD 0)).getLsbD (i + 1) = false := by
      cases x.getLsbD 0 <;> simp [bit1]
    rw [hb, show 1 + (i + 1 - 1) = i + 1 by omega]
    simp [hi]
theorem rawb_low (k : Nat) (x s : BitVec 32) (h : x >>> k = 0#32) : rawb s (lowbits k x) = stN k (s ^^^ x) := by
  induction k generalizing x s with
  | zero => simp at h; subst h; simp [lowbits, rawb, stN]
  | succ k ih =>
    rw [lowbits_succ]
    show rawb (st (s ^^^ bit1 (x.getLsbD 0))) (lowbits k (x >>> 1)) = stN k (st (s ^^^ x))
    rw [ih _ _ (by rw [← BitVec.shiftRight_add, Nat.add_comm]; exact h)]
    congr 1
    have hs : st ((x >>> 1) <<< 1) = x >>> 1 := st_shl _ (by simp)
    conv => rhs; rw [split1 x]
    rw [← BitVec.xor_assoc, st_xor (s ^^^ bit1 (x.getLsbD 0)), hs]
def bits8 (c : UInt8) : List Bool := (List.range 8).map c.toNat.testBit
theorem bits8_low (c : UInt8) : bits8 c = lowbits 8 (bv c) := by
  unfold bits8 lowbits bv
  apply List.map_congr_left
  intro i hi
  have hi' : i < 8 := by simpa using hi
  have hc : c.toNat < 256 := c.toNat_lt
  rw [BitVec.getLsbD_ofNat]
  simp [show i < 32 by omega]
theorem bv_shr (c : UInt8) : bv c >>> 8 = 0#32 := by
  apply BitVec.eq_of_toNat_eq
  have hc : c.toNat < 256 := c.toNat_lt
  simp [bv, BitVec.toNat_ushiftRight]
  rw [Nat.shiftRight_eq_div_pow]; omega
theorem upd_bits (s : BitVec 32) (c : UInt8) : upd s c = rawb s (bits8 c) := by
  rw [bits8_low, rawb_low 8 _ _ (bv_shr c)]; rfl
def flat (l : List UInt8) : List Bool := l.flatMap bits8
theorem raw_bits (s : BitVec 32) (l : List UInt8) : raw s l = rawb s (flat l) := by
  induction l generalizing s with
  | nil => rfl
  | cons c l ih =>
    show raw (upd s c) l = rawb s (bits8 c ++ flat l)
    rw [rawb_append, ih, upd_bits]
theorem flat_length (l : List UInt8) : (flat l).length = 8 * l.length := by
  induction l with
  | nil => rfl
  | cons c l ih =>
    show (bits8 c ++ flat l).length = _
    rw [List.length_append, ih]; simp [bits8]; omega
theorem flat_get (l : List UInt8) (k : Nat) : (flat l)[k]? = (l[k / 8]?).map (fun c => c.toNat.testBit (k % 8)) := by
  induction l generalizing k with
  | nil => simp [flat]
  | cons c l ih =>
    show (bits8 c ++ flat l)[k]? = _
    have h8 : (bits8 c).length = 8 := by simp [bits8]
    by_cases hk : k < 8
    · rw [List.getElem?_append_left (by omega)]
      have e1 : k / 8 = 0 := by omega
      have e2 : k % 8 = k := by omega
      rw [e1, e2]
      simp [bits8, hk]
    · rw [List.getElem?_append_right (by omega), ih, h8]
      have e1 : k / 8 = (k - 8) / 8 + 1 := by omega
      have e2 : (k - 8) % 8 = k % 8 := by omega
      rw [e1, e2]; rfl
/-- Four bytes, the lowest first. -/
def leb32 (y : BitVec 32) : List UInt8 := [UInt8.ofNat y.toNat, UInt8.ofNat (y >>> 8).toNat, UInt8.ofNat (y >>> 16).toNat, UInt8.ofNat (y >>> 24).toNat]
theorem flat_leb32 (y : BitVec 32) : flat (leb32 y) = lowbits 32 y := by
  apply List.ext_getElem?
  intro k
  rw [flat_get]
  by_cases hk : k < 32
  · have hr : (lowbits 32 y)[k]? = some (y.getLsbD k) := by simp [lowbits, hk]
    rw [hr]
    have key : ∀ z : BitVec 32, (UInt8.ofNat z.toNat).toNat.testBit (k % 8) = z.getLsbD (k % 8) := by
      intro z
      rw [UInt8.toNat_ofNat', BitVec.getLsbD]
      rw [Nat.testBit_mod_two_pow]
      simp [show k % 8 < 8 by omega]
    have hq : k / 8 = 0 ∨ k / 8 = 1 ∨ k / 8 = 2 ∨ k / 8 = 3 := by omega
    rcases hq with hq | hq | hq | hq
    · rw [hq]; simp only [leb32, List.getElem?_cons_zero, Option.map_some, key]
      congr 2; omega
    · rw [hq]; simp only [leb32, List.getElem?_cons_succ, List.getElem?_cons_zero, Option.map_some, key, BitVec.getLsbD_ushiftRight]
      congr 2; omega
    · rw [hq]; simp only [leb32, List.getElem?_cons_succ, List.getElem?_cons_zero, Option.map_some, key, BitVec.getLsbD_ushiftRight]
      congr 2; omega
    · rw [hq]; simp only [leb32, List.getElem?_cons_succ, List.getElem?_cons_zero, Option.map_some, key, BitVec.getLsbD_ushiftRight]
      congr 2; omega
  · have h1 : (lowbits 32 y)[k]? = none := by simp [lowbits]; omega
    have h2 : (leb32 y)[k / 8]? = none := by simp [leb32]; omega
    rw [h1, h2]; rfl
theorem shr32 (y : BitVec 32) : y >>> 32 = 0#32 := by
  apply BitVec.eq_of_getLsbD_eq
  intro i hi
  rw [BitVec.getLsbD_ushiftRight, BitVec.getLsbD_of_ge _ _ (by omega)]; simp
theorem raw_leb32 (x y : BitVec 32) : raw x (leb32 y) = stN 32 (x ^^^ y) := by
  rw [raw_bits, flat_leb32, rawb_low 32 _ _ (shr32 y)]
/-- The four bytes that turn a text's sum into another. -/
def fixv (sum want : BitVec 32) : BitVec 32 := invN 32 (~~~ want) ^^^ ~~~ sum
theorem fix_works (l : List UInt8) (want : BitVec 32) : more 0#32 (l ++ leb32 (fixv (more 0#32 l) want)) = want := by
  rw [more_append]
  generalize more 0#32 l = s
  unfold more
  rw [raw_leb32]
  unfold fixv
  rw [show ~~~ s ^^^ (invN 32 (~~~ want) ^^^ ~~~ s) = invN 32 (~~~ want) ^^^ (~~~ s ^^^ ~~~ s) by ac_rfl, BitVec.xor_self, BitVec.xor_zero, stN_invN, BitVec.not_not]

theorem fix_lo {x : BitVec 32} (h : x.getLsbD 31 = false) : inv x = x <<< 1 := by unfold inv; rw [h]; rfl
theorem fix_hi {x : BitVec 32} (h : x.getLsbD 31 = true) : inv x = ((x ^^^ poly) <<< 1) ||| 1#32 := by unfold inv; rw [h]; rfl
/-- Eight bytes of a number, the lowest first. -/
def leb64 (u : Nat) : List UInt8 := (List.range 8).map fun i => UInt8.ofNat (u / 256 ^ i)
/-- The sum of a text and of numbers behind it. -/
def markS (s : BitVec 32) (ws : List Int) : BitVec 32 := ws.foldl (fun s n => more s (leb64 (n % 18446744073709551616).toNat)) s
/- ### Bursts -/
/-- A text whose bit k is turned. -/
def flip (l : List UInt8) (k : Nat) : List UInt8 := l.set (k / 8) ((l.getD (k / 8) 0) ^^^ UInt8.ofNat (2 ^ (k % 8)))
theorem flip_length (l : List UInt8) (k : Nat) : (flip l k).length = l.length := by simp [flip]
theorem bit_flip (c : UInt8) (r j : Nat) (hr : r < 8) (_hj : j < 8) : (c ^^^ UInt8.ofNat (2 ^ r)).toNat.testBit j = (c.toNat.testBit j ^^ decide (j = r)) := by
  have h2 : 2 ^ r < 256 := Nat.lt_of_lt_of_le (Nat.pow_lt_pow_right (by decide) hr) (by decide)
  rw [UInt8.toNat_xor, Nat.testBit_xor, UInt8.toNat_ofNat', Nat.mod_eq_of_lt h2, Nat.testBit_two_pow]
  congr 1
  simp [eq_comm]
theorem flat_flip (l : List UInt8) (k j : Nat) (h : k / 8 < l.length) : (flat (flip l k))[j]? = ((flat l)[j]?).map (fun b => b ^^ decide (j = k)) := by
  rw [flat_get, flat_get]
  unfold flip
  rw [List.getElem?_set]
  by_cases hq : k / 8 = j / 8
  · rw [if_pos hq, if_pos h, ← hq]
    have hl : l[k / 8]? = some (l.getD (k / 8) 0) := by simp [List.getD, h]
    rw [hl]
    simp only [Option.map_some]
    rw [bit_flip _ _ _ (by omega) (by omega)]
    congr 2
    simp; omega
  · rw [if_neg hq, Option.map_map]
    congr 1
    funext c
    have : j ≠ k := by rintro rfl; exact hq rfl
    simp [this]
/-- Bits from 'at' on turned, those that 'turn' names, the first i of them. -/
def burst (l : List UInt8) (at_ : Nat) (turn : BitVec 32) : Nat → List UInt8
  | 0 => l
  | i + 1 => if turn.getLsbD i then flip (burst l at_ turn i) (at_ + i) else burst l at_ turn i
theorem burst_length (l : List UInt8) (at_ : Nat) (turn : BitVec 32) (i : Nat) : (burst l at_ turn i).length = l.length := by
  induction i with
  | zero => rfl
  | succ i ih =>
    unfold burst
    split
    · rw [flip_length, ih]
    · exact ih
theorem flat_burst (l : List UInt8) (at_ : Nat) (turn : BitVec 32) (i j : Nat) (h : at_ + i ≤ 8 * l.length) :
    (flat (burst l at_ turn i))[j]? = ((flat l)[j]?).map (fun b => b ^^ (decide (at_ ≤ j) && decide (j < at_ + i) && turn.getLsbD (j - at_))) := by
  induction i with
  | zero =>
    have : ∀ b : Bool, (b ^^ (decide (at_ ≤ j) && decide (j < at_ + 0) && turn.getLsbD (j - at_))) = b := by
      intro b
      by_cases h1 : at_ ≤ j
      · have : ¬ j < at_ := by omega
        simp [this]
      · simp [h1]
    show (flat l)[j]? = _
    simp only [this]
    simp
  | succ i ih =>
    have ih' := ih (by omega)
    unfold burst
    by_cases ht : turn.getLsbD i = true
    · rw [if_pos ht, flat_flip _ _ _ (by rw [burst_length]; omega), ih', Option.map_map]
      congr 1
      funext b
      simp only [Function.comp]
      rw [Bool.xor_assoc]
      congr 1
      by_cases hj : j = at_ + i
      · subst hj
        simp [ht]
      · by_cases h1 : at_ ≤ j <;> by_cases h2 : j < at_ + i
        · have : j < at_ + (i + 1) := by omega
          simp [h1, h2, hj, this]
        · have : ¬ j < at_ + (i + 1) := by omega
          simp [h2, hj, this]
        · simp [h1, hj]
        · simp [h1, hj]
    · rw [if_neg ht, ih']
      congr 1
      funext b
      congr 1
      by_cases hj : j = at_ + i
      · subst hj
        simp at ht
        simp [ht]
      · by_cases h1 : at_ ≤ j <;> by_cases h2 : j < at_ + i
        · have : j < at_ + (i + 1) := by omega
          simp [h2, this]
        · have : ¬ j < at_ + (i + 1) := by omega
          simp [h2, this]
        · simp [h1]
        · simp [h1]
theorem burst_ne (l : List UInt8) (at_ : Nat) (turn : BitVec 32) (h : at_ + 32 ≤ 8 * l.length) (ht : turn ≠ 0#32) : more 0#32 (burst l at_ turn 32) ≠ more 0#32 l := by
  intro he
  have hraw : raw (~~~ 0#32) (burst l at_ turn 32) = raw (~~~ 0#32) l := by
    have := congrArg (fun x => ~~~ x) he
    simpa [more] using this
  rw [raw_bits, raw_bits] at hraw
  have hlen : (flat l).length = 8 * l.length := flat_length l
  have hz : flat (burst l at_ turn 32) = List.zipWith (· ^^ ·) (flat l) (List.replicate at_ false ++ lowbits 32 turn ++ List.replicate (8 * l.length - at_ - 32) false) := by
    apply List.ext_getElem?
    intro j
    rw [flat_burst l at_ turn 32 j h, List.getElem?_zipWith]
    by_cases hj : j < 8 * l.length
    · have h1 : (flat l)[j]? = some ((flat l)[j]'(by omega)) := List.getElem?_eq_getElem (by omega)
      have h2 : (List.replicate at_ false ++ lowbits 32 turn ++ List.replicate (8 * l.length - at_ - 32) false)[j]? = some (decide (at_ ≤ j) && decide (j < at_ + 32) && turn.getLsbD (j - at_)) := by
        by_cases ha : j < at_
        · rw [List.getElem?_append_left (by simp; omega), List.getElem?_append_left (by simpa using ha)]
          simp [show ¬ at_ ≤ j by omega, ha]
        · by_cases hb : j < at_ + 32
          · rw [List.getElem?_append_left (by simp [lowbits]; omega), List.getElem?_append_right (by simp; omega)]
            simp only [lowbits, List.length_replicate, List.getElem?_map]
            rw [List.getElem?_range (by omega)]
            have : at_ ≤ j := by omega
            simp [hb, this]
          · rw [List.getElem?_append_right (by simp [lowbits]; omega)]
            rw [List.getElem?_replicate_of_lt (by simp [lowbits]; omega)]
            simp [hb]
      rw [h1, h2]; rfl
    · have h1 : (flat l)[j]? = none := by rw [List.getElem?_eq_none]; omega
      rw [h1]; rfl
  rw [hz, show ~~~ 0#32 = ~~~ 0#32 ^^^ 0#32 by decide] at hraw
  rw [rawb_xor _ _ (by simp [flat_length, lowbits]; omega)] at hraw
  have h0 : rawb 0#32 (List.replicate at_ false ++ lowbits 32 turn ++ List.replicate (8 * l.length - at_ - 32) false) = 0#32 := by
    have hx := congrArg (fun x => rawb (~~~ 0#32) (flat l) ^^^ x) hraw
    simp only [BitVec.xor_zero] at hx
    rw [← BitVec.xor_assoc, BitVec.xor_self, BitVec.zero_xor] at hx
    exact hx
  rw [rawb_append, rawb_append, rawb_zeros, rawb_zeros, stN_zero, rawb_low 32 _ _ (shr32 turn), BitVec.zero_xor] at h0
  exact ht (stN_eq_zero _ _ (stN_eq_zero _ _ h0))

/- ### Matrices -/
def mat (f : BitVec 32 → BitVec 32) (i : Nat) : BitVec 32 := f (1#32 <<< i)
def timesTo (m : Nat → BitVec 32) (n : BitVec 32) : Nat → BitVec 32
  | 0 => 0#32
  | k + 1 => if n.getLsbD k then timesTo m n k ^^^ m k else timesTo m n k
def lo (k : Nat) (n : BitVec 32) : BitVec 32 := BitVec.ofNat 32 (n.toNat % 2 ^ k)
theorem lo_bit (k : Nat) (n : BitVec 32) (i : Nat) (hi : i < 32) : (lo k n).getLsbD i = (decide (i < k) && n.getLsbD i) := by
  unfold lo
  rw [BitVec.getLsbD_ofNat, Nat.testBit_mod_two_pow]
  simp [hi, BitVec.getLsbD]
theorem lo_succ (k : Nat) (n : BitVec 32) (hk : k < 32) : lo (k + 1) n = if n.getLsbD k then lo k n ^^^ (1#32 <<< k) else lo k n := by
  apply BitVec.eq_of_getLsbD_eq
  intro i hi
  rw [lo_bit _ _ _ hi]
  by_cases hik : i = k
  · subst hik
    cases h : n.getLsbD i
    · simp [lo_bit _ _ _ hi]
    · rw [if_pos rfl, BitVec.getLsbD_xor, lo_bit _ _ _ hi, BitVec.getLsbD_shiftLeft]
      simp [hi]
  · have hone : (1#32 <<< k).getLsbD i = false := by
      rw [BitVec.getLsbD_shiftLeft]
      by_cases h : i < k
      · simp [h]
      · have : i - k ≠ 0 := by omega
        simp [h, this]
    split
    · rw [BitVec.getLsbD_xor, lo_bit _ _ _ hi, hone]
      by_cases h : i < k
      · have : i < k + 1 := by omega
        simp [h, this]
      · have : ¬ i < k + 1 := by omega
        simp [h, this]
    · rw [lo_bit _ _ _ hi]
      by_cases h : i < k
      · have : i < k + 1 := by omega
        simp [h, this]
      · have : ¬ i < k + 1 := by omega
        simp [h, this]
theorem times_mat (f : BitVec 32 → BitVec 32) (hf : ∀ a b, f (a ^^^ b) = f a ^^^ f b) (n : BitVec 32) (k : Nat) (hk : k ≤ 32) : timesTo (mat f) n k = f (lo k n) := by
  have h0 : f 0#32 = 0#32 := by
    have := hf 0#32 0#32
    rw [BitVec.xor_self, BitVec.xor_self] at this
    exact this
  induction k with
  | zero => simp [timesTo, lo, h0, Nat.mod_one]
  | succ k ih =>
    unfold timesTo
    rw [ih (by omega), lo_succ k n (by omega)]
    split
    · rw [hf]; rfl
    · rfl
theorem lo32 (n : BitVec 32) : lo 32 n = n := by
  unfold lo
  apply BitVec.eq_of_toNat_eq
  have := n.isLt
  simp
  omega
theorem times_all (f : BitVec 32 → BitVec 32) (hf : ∀ a b, f (a ^^^ b) = f a ^^^ f b) (n : BitVec 32) : timesTo (mat f) n 32 = f n := by
  rw [times_mat f hf n 32 (Nat.le_refl _), lo32]
/-- What so many noughts behind make of a sum. -/
def far (n : Nat) (s : BitVec 32) : BitVec 32 := stN (8 * n) s
theorem far_xor (n : Nat) (a b : BitVec 32) : far n (a ^^^ b) = far n a ^^^ far n b := stN_xor _ a b
theorem far_add (a b : Nat) (s : BitVec 32) : far (a + b) s = far b (far a s) := by unfold far; rw [Nat.mul_add, stN_add]
theorem far_one (s : BitVec 32) : far 1 s = eight s := rfl
theorem far_zero (s : BitVec 32) : far 0 s = s := rfl
theorem join_parts (a b : List UInt8) : far b.length (more 0#32 a) ^^^ more 0#32 b = more 0#32 (a ++ b) := by
  rw [more_append]
  generalize more 0#32 a = s
  unfold more
  have h : ~~~ s = ~~~ 0#32 ^^^ s := by
    apply BitVec.eq_of_getLsbD_eq
    intro i hi
    rw [BitVec.getLsbD_xor, BitVec.getLsbD_not, BitVec.getLsbD_not]
    simp [hi]
  rw [h, raw_xor]
  unfold far
  apply BitVec.eq_of_getLsbD_eq
  intro i hi
  simp only [BitVec.getLsbD_xor, BitVec.getLsbD_not]
  cases (stN (8 * b.length) s).getLsbD i <;> cases (raw (~~~ 0#32) b).getLsbD i <;> simp [hi]
end Go.Proofs.YtfdecpmdicnfbaaDoor.SumP
