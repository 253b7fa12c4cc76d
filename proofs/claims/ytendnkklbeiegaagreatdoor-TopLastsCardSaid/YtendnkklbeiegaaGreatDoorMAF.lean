/-
  A disk of sectors, in plain words: what lasts of each sector, and the writes that wait; no program in sight.
-/
import Derived.Test.YtendnkklbeiegaaGreatDoorProg
namespace Go.Proofs.YtendnkklbeiegaaGreatDoor.DiskP

/-- What stands in a sector: its bytes (none: it is torn), and whether a bit of it was turned. -/
structure Sect where
  bytes : Option (List UInt8)
  rot : Bool
def zeroS (size : Nat) : Sect := ⟨some (List.replicate size 0), false⟩
def tornS : Sect := ⟨none, false⟩
structure Dsk where
  size : Nat
  last : List Sect
  wait : List (Nat × Sect)
  off : Bool

section
variable {α β : Type}
/-- The last write of a sector among those that wait. -/
def lastIdx : List (Nat × α) → Nat → Option Nat
  | [], _ => none
  | x :: ws, n => match lastIdx ws n with
    | some i => some (i + 1)
    | none => if x.1 = n then some 0 else none
def lastW : List (Nat × α) → Nat → Option α
  | [], _ => none
  | x :: ws, n => match lastW ws n with
    | some y => some y
    | none => if x.1 = n then some x.2 else none
/-- Writes last, in order. -/
def applyW (l : List α) (ws : List (Nat × α)) : List α := ws.foldl (fun l x => l.set x.1 x.2) l
theorem applyW_length (l : List α) (ws : List (Nat × α)) : (applyW l ws).length = l.length := by
  induction ws generalizing l with
  | nil => rfl
  | cons x ws ih => show (applyW (l.set x.1 x.2) ws).length = _; rw [ih]; simp
theorem applyW_append (l : List α) (a b : List (Nat × α)) : applyW l (a ++ b) = applyW (applyW l a) b := List.foldl_append
theorem applyW_get (l : List α) (ws : List (Nat × α)) (i : Nat) (hi : i < l.length) : (applyW l ws)[i]? = some ((lastW ws i).getD l[i]) := by
  induction ws generalizing l with
  | nil => simp [applyW, lastW, hi]
  | cons x ws ih =>
    show (applyW (l.set x.1 x.2) ws)[i]? = _
    rw [ih _ (by simpa using hi)]
    congr 1
    rw [lastW]
    cases h : lastW ws i with
    | some y => rfl
    | none =>
      simp only [Option.getD_none]
      rw [List.getElem_set]
      split <;> simp_all
theorem lastW_idx (ws : List (Nat × α)) (n : Nat) : lastW ws n = (lastIdx ws n).bind fun i => (ws[i]?).map (·.2) := by
  induction ws with
  | nil => rfl
  | cons x ws ih =>
    rw [lastW, lastIdx, ih]
    cases h : lastIdx ws n with
    | some i =>
      simp only [Option.bind_some]
      cases h2 : ws[i]? with
      | some y => simp [h2]
      | none =>
        -- an index that lastIdx tells is there
        exfalso
        have : ∀ (l : List (Nat × α)) i, lastIdx l n = some i → i < l.length := by
          intro l
          induction l with
          | nil => intro i hi; cases hi
          | cons y l ihl =>
            intro i hi
            rw [lastIdx] at hi
            cases hl : lastIdx l n with
            | some k => rw [hl] at hi; injection hi with hi; have := ihl k hl; simp; omega
            | none =>
              rw [hl] at hi
              simp only at hi
              split at hi
              · injection hi with hi; simp; omega
              · cases hi
        have hlt := this ws i h
        rw [List.getElem?_eq_getElem hlt] at h2
        cases h2
    | none =>
      simp only [Option.bind_none]
      by_cases hx : x.1 = n
      · simp [hx]
      · simp [hx]
theorem lastIdx_lt {ws : List (Nat × α)} {n i : Nat} (h : lastIdx ws n = some i) : ∃ y, ws[i]? = some (n, y) := by
  induction ws generalizing i with
  | nil => cases h
  | cons x ws ih =>
    rw [lastIdx] at h
    cases hl : lastIdx ws n with
    | some k =>
      rw [hl] at h
      injection h with h
      subst h
      obtain ⟨y, hy⟩ := ih hl
      exact ⟨y, by simpa using hy⟩
    | none =>
      rw [hl] at h
      simp only at h
      split at h
      · rename_i hx
        injection h with h
        subst h
        exact ⟨x.2, by simp [← hx]⟩
      · cases h
theorem applyW_map (f : α → β) (l : List α) (ws : List (Nat × α)) : applyW (l.map f) (ws.map fun x => (x.1, f x.2)) = (applyW l ws).map f := by
  induction ws generalizing l with
  | nil => rfl
  | cons x ws ih =>
    show applyW ((l.map f).set x.1 (f x.2)) (ws.map fun x => (x.1, f x.2)) = _
    rw [← List.map_set, ih]; rfl
theorem toldW_snoc (l : List α) (ws : List (Nat × α)) (x : Nat × α) : applyW l (ws ++ [x]) = (applyW l ws).set x.1 x.2 := by rw [applyW_append]; rfl
end

def newD (n size : Nat) : Dsk := ⟨size, List.replicate n (zeroS size), [], false⟩
def Dsk.told (d : Dsk) : List Sect := applyW d.last d.wait
def Dsk.write (d : Dsk) (n : Nat) (l : List UInt8) : Dsk := { d with wait := d.wait ++ [(n, ⟨some l, false⟩)] }
def Dsk.flush (d : Dsk) : Dsk := { d with last := applyW d.last d.wait, wait := [] }
/-- Of writes those that last when the power fails. -/
def keepW {α : Type} (keep : List Bool) (torn : Int) (z : α) : Nat → List (Nat × α) → List (Nat × α)
  | _, [] => []
  | i, x :: ws => if (i : Int) = torn then (x.1, z) :: keepW keep torn z (i + 1) ws else if keep.getD i false then x :: keepW keep torn z (i + 1) ws else keepW keep torn z (i + 1) ws
def Dsk.cut (d : Dsk) (keep : List Bool) (torn : Int) : Dsk := if d.off then d else { d with last := applyW d.last (keepW keep torn tornS 0 d.wait), wait := [], off := true }
def Dsk.on (d : Dsk) : Dsk := { d with off := false }
/-- Bytes with a bit turned. -/
def turnBit (l : List UInt8) (bit : Nat) : List UInt8 := l.set (bit / 8) ((l.getD (bit / 8) 0) ^^^ UInt8.ofNat (2 ^ (bit % 8)))
def Sect.turn (s : Sect) (bit : Nat) : Sect := ⟨s.bytes.map (turnBit · bit), true⟩
/-- What a call tells: 0 is all right. -/
def Dsk.has (d : Dsk) (n : Int) : Bool := decide (0 ≤ n) && decide (n < d.last.length)
def Dsk.readE (d : Dsk) (n : Int) : Int :=
  if d.has n = false then 1 else if d.off then 10 else match d.told[n.toNat]? with
    | some s => if s.bytes.isNone then 9 else 0
    | none => 1
def Dsk.readB (d : Dsk) (n : Nat) : List UInt8 := ((d.told[n]?).bind (·.bytes)).getD []
def Dsk.readL (d : Dsk) (n : Int) : List UInt8 := if d.readE n = 0 then d.readB n.toNat else []
def Dsk.writeE (d : Dsk) (n : Int) (l : List UInt8) : Int := if d.has n = false then 1 else if l.length ≠ d.size then 1 else if d.off then 10 else 0
/- ### Cut -/
section
variable {α β : Type}
/-- What becomes of one write when the power fails. -/
def keep1 (keep : List Bool) (torn : Int) (z : α) (i : Nat) (x : Nat × α) : List (Nat × α) := if (i : Int) = torn then [(x.1, z)] else if keep.getD i false then [x] else []
theorem keepW_cons (keep : List Bool) (torn : Int) (z : α) (i : Nat) (x : Nat × α) (ws : List (Nat × α)) : keepW keep torn z i (x :: ws) = keep1 keep torn z i x ++ keepW keep torn z (i + 1) ws := by
  rw [keepW]
  unfold keep1
  split
  · rfl
  · split <;> rfl
theorem keepW_snoc (keep : List Bool) (torn : Int) (z : α) (i : Nat) (ws : List (Nat × α)) (x : Nat × α) : keepW keep torn z i (ws ++ [x]) = keepW keep torn z i ws ++ keep1 keep torn z (i + ws.length) x := by
  induction ws generalizing i with
  | nil =>
    show keepW keep torn z i [x] = _
    rw [keepW_cons]
    simp [keepW]
  | cons y ws ih =>
    show keepW keep torn z i (y :: (ws ++ [x])) = _
    rw [keepW_cons, keepW_cons, ih, List.append_assoc, show i + 1 + ws.length = i + (y :: ws).length by simp; omega]
theorem keepW_map (f : α → β) (keep : List Bool) (torn : Int) (z : α) (i : Nat) (ws : List (Nat × α)) : keepW keep torn (f z) i (ws.map fun x => (x.1, f x.2)) = (keepW keep torn z i ws).map fun x => (x.1, f x.2) := by
  induction ws generalizing i with
  | nil => rfl
  | cons x ws ih =>
    show keepW keep torn (f z) i ((x.1, f x.2) :: ws.map fun x => (x.1, f x.2)) = _
    rw [keepW_cons, keepW_cons, ih, List.map_append]
    congr 1
    unfold keep1
    split
    · rfl
    · split <;> rfl
/-- A torn write behind all is no matter. -/
theorem keepW_z (keep : List Bool) (torn : Int) (z z' : α) (i : Nat) (ws : List (Nat × α)) (h : ((i + ws.length : Nat) : Int) ≤ torn) : keepW keep torn z i ws = keepW keep torn z' i ws := by
  induction ws generalizing i with
  | nil => rfl
  | cons x ws ih =>
    rw [keepW_cons, keepW_cons, ih (i + 1) (by simp at h ⊢; omega)]
    congr 1
    unfold keep1
    have : ¬ (i : Int) = torn := by simp at h; omega
    rw [if_neg this, if_neg this]
theorem keepW_mem {keep : List Bool} {torn : Int} {z : α} {i : Nat} {ws : List (Nat × α)} {x : Nat × α} (h : x ∈ keepW keep torn z i ws) : (x ∈ ws) ∨ (x.2 = z ∧ ∃ m : Nat, ((i + m : Nat) : Int) = torn ∧ ∃ a, ws[m]? = some (x.1, a)) := by
  induction ws generalizing i with
  | nil => cases h
  | cons y ws ih =>
    rw [keepW_cons] at h
    rcases List.mem_append.1 h with h | h
    · unfold keep1 at h
      split at h
      · rename_i ht
        simp at h; subst h; exact .inr ⟨rfl, 0, by simpa using ht, y.2, rfl⟩
      · split at h
        · simp at h; subst h; exact .inl (by simp)
        · cases h
    · rcases ih h with h | ⟨h1, m, hm, a, ha⟩
      · exact .inl (by simp [h])
      · exact .inr ⟨h1, m + 1, by omega, a, by simpa using ha⟩
theorem keepW_sect {keep : List Bool} {torn : Int} {z : α} {i : Nat} {ws : List (Nat × α)} {x : Nat × α} (h : x ∈ keepW keep torn z i ws) : ∃ y ∈ ws, y.1 = x.1 := by
  rcases keepW_mem h with h | ⟨_, m, _, a, ha⟩
  · exact ⟨x, h, rfl⟩
  · exact ⟨_, List.mem_of_getElem? ha, rfl⟩
theorem lastW_none {ws : List (Nat × α)} {n : Nat} (h : ∀ x ∈ ws, x.1 ≠ n) : lastW ws n = none := by
  induction ws with
  | nil => rfl
  | cons x ws ih =>
    rw [lastW, ih (fun y hy => h y (by simp [hy]))]
    simp [h x (by simp)]
theorem lastW_mem {ws : List (Nat × α)} {n : Nat} {a : α} (h : lastW ws n = some a) : (n, a) ∈ ws := by
  induction ws with
  | nil => cases h
  | cons x ws ih =>
    rw [lastW] at h
    cases hl : lastW ws n with
    | some b => rw [hl] at h; simp only at h; injection h with h; subst h; simp [ih hl]
    | none =>
      rw [hl] at h
      simp only at h
      split at h
      · rename_i hx
        injection h with h
        subst h hx
        simp
      · cases h
/-- Told anew: what waited is told as it lasts. -/
theorem retold (l l' : List α) (ws ks : List (Nat × α)) (hl : l' = applyW l ks) (hk : ∀ x ∈ ks, ∃ y ∈ ws, y.1 = x.1) (d : α) :
    applyW (applyW l ws) (ws.map fun x => (x.1, l'.getD x.1 d)) = l' := by
  have hlen : l'.length = l.length := by rw [hl, applyW_length]
  apply List.ext_getElem?
  intro i
  by_cases hi : i < l.length
  · rw [applyW_get _ _ i (by rw [applyW_length]; exact hi)]
    by_cases hex : ∃ y ∈ ws, y.1 = i
    · have : ∃ a, lastW (ws.map fun x => (x.1, l'.getD x.1 d)) i = some a := by
        cases h0 : lastW (ws.map fun x => (x.1, l'.getD x.1 d)) i with
        | some a => exact ⟨a, rfl⟩
        | none =>
          exfalso
          obtain ⟨y, hy, hyi⟩ := hex
          have key : ∀ (m : List (Nat × α)), (∃ z ∈ m, z.1 = i) → lastW m i ≠ none := by
            intro m
            induction m with
            | nil => rintro ⟨_, h, _⟩; cases h
            | cons u m ih =>
              rintro ⟨z, hz, hzi⟩
              rw [lastW]
              cases hm : lastW m i with
              | some b => simp
              | none =>
                rcases List.mem_cons.1 hz with rfl | hz
                · simp [hzi]
                · exact absurd hm (ih ⟨z, hz, hzi⟩)
          exact key _ ⟨(y.1, l'.getD y.1 d), List.mem_map.2 ⟨y, hy, rfl⟩, hyi⟩ h0
      obtain ⟨a, ha⟩ := this
      rw [ha]
      have hm := lastW_mem ha
      simp only [List.mem_map] at hm
      obtain ⟨x, _, hx⟩ := hm
      injection hx with h1 h2
      rw [List.getElem?_eq_getElem (by omega), ← h2, h1]
      simp [List.getD, show i < l'.length by omega]
    · have h1 : ∀ x ∈ ws, x.1 ≠ i := fun x hx e => hex ⟨x, hx, e⟩
      have h2 : ∀ x ∈ (ws.map fun x => (x.1, l'.getD x.1 d)), x.1 ≠ i := by
        intro x hx e
        simp only [List.mem_map] at hx
        obtain ⟨y, hy, rfl⟩ := hx
        exact h1 y hy e
      have h3 : ∀ x ∈ ks, x.1 ≠ i := by
        intro x hx e
        obtain ⟨y, hy, hyx⟩ := hk x hx
        exact h1 y hy (hyx.trans e)
      rw [lastW_none h2, Option.getD_none]
      have e1 : (applyW l ws)[i]? = some l[i] := by rw [applyW_get l ws i hi, lastW_none h1]; rfl
      have e2 : l'[i]? = some l[i] := by rw [hl, applyW_get l ks i hi, lastW_none h3]; rfl
      rw [e2]
      have hlt : i < (applyW l ws).length := by rw [applyW_length]; exact hi
      rw [List.getElem?_eq_getElem hlt] at e1
      exact e1
  · rw [List.getElem?_eq_none (by rw [applyW_length, applyW_length]; omega), List.getElem?_eq_none (by omega)]
end
end Go.Proofs.YtendnkklbeiegaaGreatDoor.DiskP
namespace Go.Proofs.YtendnkklbeiegaaGreatDoor.SumP

def poly : BitVec 32 := 0xEDB88320#32
/-- One step: one bit. -/
def st (s : BitVec 32) : BitVec 32 := (s >>> 1) ^^^ (if s.getLsbD 0 then poly else 0#32)
def stN : Nat → BitVec 32 → BitVec 32
  | 0, s => s
  | n + 1, s => stN n (st s)

theorem stN_add (a b : Nat) (s : BitVec 32) : stN (a + b) s = stN b (stN a s) := by
  induction a generalizing s with
  | zero => rw [Nat.zero_add]; rfl
  | succ a ih => rw [Nat.succ_add]; exact ih (st s)
theorem st_xor (a b : BitVec 32) : st (a ^^^ b) = st a ^^^ st b := by
  unfold st
  rw [BitVec.getLsbD_xor, BitVec.ushiftRight_xor_distrib]
  cases a.getLsbD 0 <;> cases b.getLsbD 0
  · simp
  · simp [BitVec.xor_assoc]
  · simp only [Bool.true_bne, Bool.not_false, if_true, Bool.false_eq_true, if_false, BitVec.xor_zero]; ac_rfl
  · simp only [bne_self_eq_false, Bool.false_eq_true, if_false, if_true, BitVec.xor_zero]
    rw [show a >>> 1 ^^^ poly ^^^ (b >>> 1 ^^^ poly) = a >>> 1 ^^^ b >>> 1 ^^^ (poly ^^^ poly) by ac_rfl, BitVec.xor_self, BitVec.xor_zero]
theorem stN_xor (n : Nat) (a b : BitVec 32) : stN n (a ^^^ b) = stN n a ^^^ stN n b := by
  induction n generalizing a b with
  | zero => rfl
  | succ n ih => show stN n (st (a ^^^ b)) = _; rw [st_xor, ih]; rfl
/-- The step back. -/
def inv (s : BitVec 32) : BitVec 32 := if s.getLsbD 31 then ((s ^^^ poly) <<< 1) ||| 1#32 else s <<< 1
/- ### The table -/
def T16 : List (BitVec 32) := [0x00000000#32, 0x1DB71064#32, 0x3B6E20C8#32, 0x26D930AC#32, 0x76DC4190#32, 0x6B6B51F4#32, 0x4DB26158#32, 0x5005713C#32,
  0xEDB88320#32, 0xF00F9344#32, 0xD6D6A3E8#32, 0xCB61B38C#32, 0x9B64C2B0#32, 0x86D3D2D4#32, 0xA00AE278#32, 0xBDBDF21C#32]
def nib (x : BitVec 32) : Nat := x.toNat % 16
def tab (x : BitVec 32) : BitVec 32 := T16.getD (nib x) 0#32
theorem nib_lt (x : BitVec 32) : nib x < 16 := Nat.mod_lt _ (by decide)
theorem st_even (s : BitVec 32) (h : s.getLsbD 0 = false) : st s = s >>> 1 := by unfold st; rw [h]; simp
theorem stN4_high (s : BitVec 32) : stN 4 ((s >>> 4) <<< 4) = s >>> 4 := by
  have e1 : st ((s >>> 4) <<< 4) = ((s >>> 4) <<< 4) >>> 1 := st_even _ (by simp)
  have e2 : st (((s >>> 4) <<< 4) >>> 1) = ((s >>> 4) <<< 4) >>> 2 := by
    rw [st_even _ (by simp), ← BitVec.shiftRight_add]
  have e3 : st (((s >>> 4) <<< 4) >>> 2) = ((s >>> 4) <<< 4) >>> 3 := by
    rw [st_even _ (by simp), ← BitVec.shiftRight_add]
  have e4 : st (((s >>> 4) <<< 4) >>> 3) = ((s >>> 4) <<< 4) >>> 4 := by
    rw [st_even _ (by simp), ← BitVec.shiftRight_add]
  show st (st (st (st _))) = _
  rw [e1, e2, e3, e4]
  apply BitVec.eq_of_getLsbD_eq
  intro i hi
  simp only [BitVec.getLsbD_ushiftRight, BitVec.getLsbD_shiftLeft]
  by_cases h : 4 + i < 32
  · simp [h]
  · have : s.getLsbD (4 + i) = false := BitVec.getLsbD_of_ge _ _ (by omega)
    simp [h, this]
theorem tab_all : ∀ n : Fin 16, stN 4 (BitVec.ofNat 32 n.val) = T16.getD n.val 0#32 := by decide
theorem split4 (s : BitVec 32) : s = BitVec.ofNat 32 (nib s) ^^^ ((s >>> 4) <<< 4) := by
  have hn : BitVec.ofNat 32 (nib s) = s &&& 15#32 := by
    apply BitVec.eq_of_toNat_eq
    rw [BitVec.toNat_ofNat, BitVec.toNat_and]
    have := nib_lt s
    have e : s.toNat &&& 15 = s.toNat % 16 := Nat.and_two_pow_sub_one_eq_mod s.toNat 4
    show nib s % 2 ^ 32 = s.toNat &&& 15
    rw [e, Nat.mod_eq_of_lt (by omega)]; rfl
  rw [hn]
  apply BitVec.eq_of_getLsbD_eq
  intro i hi
  rw [BitVec.getLsbD_xor, BitVec.getLsbD_and]
  simp only [BitVec.getLsbD_ushiftRight, BitVec.getLsbD_shiftLeft]
  by_cases h : i < 4
  · have : (15#32).getLsbD i = true := by
      rcases i with _ | _ | _ | _ | i
      · decide
      · decide
      · decide
      · decide
      · omega
    simp [h, this]
  · have : (15#32).getLsbD i = false := by
      simp only [BitVec.getLsbD_ofNat]
      have : (15 : Nat).testBit i = false := Nat.testBit_lt_two_pow (Nat.lt_of_lt_of_le (by decide : 15 < 2 ^ 4) (Nat.pow_le_pow_right (by decide) (by omega)))
      rw [this]; simp
    rw [this]
    have e : 4 + (i - 4) = i := by omega
    simp [h, hi, e]
theorem four (s : BitVec 32) : tab s ^^^ (s >>> 4) = stN 4 s := by
  have h := tab_all ⟨nib s, nib_lt s⟩
  conv => rhs; rw [split4 s]
  rw [stN_xor, stN4_high]
  congr 1
  exact h.symm
def eight (s : BitVec 32) : BitVec 32 := stN 8 s
theorem eight_by (s : BitVec 32) : tab (tab s ^^^ (s >>> 4)) ^^^ ((tab s ^^^ (s >>> 4)) >>> 4) = eight s := by
  rw [four (tab s ^^^ (s >>> 4)), four s]
  exact (stN_add 4 4 s).symm
/- ### Bytes -/
def bv (c : UInt8) : BitVec 32 := BitVec.ofNat 32 c.toNat
def upd (s : BitVec 32) (c : UInt8) : BitVec 32 := eight (s ^^^ bv c)
def raw (s : BitVec 32) (l : List UInt8) : BitVec 32 := l.foldl upd s
def more (s : BitVec 32) (l : List UInt8) : BitVec 32 := ~~~ (raw (~~~ s) l)
theorem raw_append (s : BitVec 32) (a b : List UInt8) : raw s (a ++ b) = raw (raw s a) b := List.foldl_append
/- ### Bits: a text's, its first byte's lowest bit first -/
/- ### Bursts -/
/- ### Matrices -/
def lo (k : Nat) (n : BitVec 32) : BitVec 32 := BitVec.ofNat 32 (n.toNat % 2 ^ k)
/-- What so many noughts behind make of a sum. -/
def far (n : Nat) (s : BitVec 32) : BitVec 32 := stN (8 * n) s
end Go.Proofs.YtendnkklbeiegaaGreatDoor.SumP
namespace Go.Proofs.YtendnkklbeiegaaGreatDoor.PageP
open DiskP

/-- How many sectors a record needs; for how many bytes sectors have room. -/
def need (size bytes : Int) : Int := if size < 19 ∨ 4096 < size ∨ bytes < 0 ∨ 1073741824 < bytes then 0 else if (bytes + (size - 18) - 1) / (size - 18) < 1 then 1 else (bytes + (size - 18) - 1) / (size - 18)
def room (size sectors : Int) : Int := if size < 19 ∨ 4096 < size ∨ sectors < 1 ∨ 65536 < sectors then 0 else (size - 18) * sectors
theorem need_pos {size bytes : Int} (h : 1 ≤ need size bytes) : 19 ≤ size ∧ size ≤ 4096 ∧ 0 ≤ bytes ∧ bytes ≤ 1073741824 := by
  unfold need at h
  split at h
  · omega
  · omega
/-- The number that bytes are, the highest first. -/
def beN (l : List UInt8) : Nat := l.foldl (fun n c => n * 256 + c.toNat) 0
theorem beN_snoc (l : List UInt8) (c : UInt8) : beN (l ++ [c]) = beN l * 256 + c.toNat := by simp [beN]
theorem beN_lt (l : List UInt8) : beN l < 256 ^ l.length := by
  suffices h : ∀ n (r : List UInt8), r.length = n → beN r < 256 ^ n from h _ l rfl
  intro n
  induction n with
  | zero => intro r hr; rw [List.length_eq_zero_iff.1 hr]; decide
  | succ n ih =>
    intro r hr
    obtain ⟨r', c, rfl⟩ : ∃ r' c, r = r' ++ [c] := ⟨r.dropLast, r.getLast (by intro e; subst e; simp at hr), (List.dropLast_concat_getLast _).symm⟩
    have h1 := ih r' (by simpa using hr)
    have h2 := c.toNat_lt
    rw [beN_snoc, Nat.pow_succ]
    omega
/-- A number's lowest m bytes, the highest first. -/
def be (m n : Nat) : List UInt8 := (List.range m).map fun i => UInt8.ofNat (n / 256 ^ (m - 1 - i))
theorem be_len (m n : Nat) : (be m n).length = m := by simp [be]
theorem be_get (m n i : Nat) (h : i < m) : (be m n)[i]? = some (UInt8.ofNat (n / 256 ^ (m - 1 - i))) := by simp [be, h]
/-- Bytes with others put over them, from a place on. -/
def spl (l : List UInt8) (o : Nat) (b : List UInt8) : List UInt8 := l.take o ++ b ++ l.drop (o + b.length)
theorem spl_len (l : List UInt8) (o : Nat) (b : List UInt8) (h : o + b.length ≤ l.length) : (spl l o b).length = l.length := by
  unfold spl
  simp only [List.length_append, List.length_take, List.length_drop]
  omega
theorem spl_nil (l : List UInt8) (o : Nat) : spl l o [] = l := by simp [spl]
theorem spl_step (l : List UInt8) (o k : Nat) (b : List UInt8) (c : UInt8) (hc : b[k]? = some c) (h : o + b.length ≤ l.length) : (spl l o (b.take k)).set (o + k) c = spl l o (b.take (k + 1)) := by
  obtain ⟨hk, he⟩ := List.getElem?_eq_some_iff.1 hc
  unfold spl
  have h1 : (b.take k).length = k := by simp; omega
  have h2 : (b.take (k + 1)).length = k + 1 := by simp; omega
  have h3 : (l.take o).length = o := by simp; omega
  rw [h1, h2, List.take_succ_eq_append_getElem hk, he]
  have hd : l.drop (o + k) = l[o + k]'(by omega) :: l.drop (o + (k + 1)) := List.drop_eq_getElem_cons (by omega)
  rw [hd, List.set_append_right _ _ (by simp; omega)]
  have h4 : o + k - (l.take o ++ b.take k).length = 0 := by rw [List.length_append, h1, h3]; omega
  rw [h4]
  simp
/-- Are all bytes 0? -/
def plainB (l : List UInt8) : Bool := l.all (· == 0)
theorem spl_end (a : List UInt8) (n : Nat) (b : List UInt8) (_h : b.length ≤ n) : spl (a ++ List.replicate n 0) a.length b = (a ++ b) ++ List.replicate (n - b.length) 0 := by
  unfold spl
  rw [List.take_left, List.drop_append, List.drop_of_length_le (by omega), show a.length + b.length - a.length = b.length by omega]
  simp
theorem set_end (a : List UInt8) (n : Nat) (c : UInt8) (h : 0 < n) : (a ++ List.replicate n 0).set a.length c = (a ++ [c]) ++ List.replicate (n - 1) 0 := by
  obtain ⟨n, rfl⟩ : ∃ m, n = m + 1 := ⟨n - 1, by omega⟩
  rw [List.set_append_right _ _ (Nat.le_refl _), Nat.sub_self, List.replicate_succ]
  simp
/-- The sum of bytes. -/
def crc (l : List UInt8) : Nat := (SumP.more 0 l).toNat
theorem crc_lt (l : List UInt8) : crc l < 4294967296 := (SumP.more 0 l).isLt
/-- The 64 bits of a number. -/
def mk64 (mark : Int) : Nat := (mark % 18446744073709551616).toNat
theorem mk64_lt (mark : Int) : mk64 mark < 18446744073709551616 := by unfold mk64; have := Int.emod_lt_of_pos mark (show (0 : Int) < 18446744073709551616 by decide); have := Int.emod_nonneg mark (show (18446744073709551616 : Int) ≠ 0 by decide); omega
theorem mk64_int (mark : Int) : mark % 18446744073709551616 = (mk64 mark : Int) := by unfold mk64; have := Int.emod_nonneg mark (show (18446744073709551616 : Int) ≠ 0 by decide); omega
def head (kind : UInt8) (mark : Int) (len : Nat) (first : Bool) : List UInt8 := [kind] ++ be 8 (mk64 mark) ++ be 4 len ++ [if first then 1 else 0]
theorem head_len (kind : UInt8) (mark : Int) (len : Nat) (first : Bool) : (head kind mark len first).length = 14 := by simp [head, be_len]
/-- A sector of a record: b is what is left of the record's bytes. -/
def body (size : Nat) (kind : UInt8) (mark : Int) (b : List UInt8) (first : Bool) : List UInt8 :=
  head kind mark b.length first ++ b.take (size - 18) ++ List.replicate (size - 18 - (b.take (size - 18)).length) 0
theorem body_len (size : Nat) (kind : UInt8) (mark : Int) (b : List UInt8) (first : Bool) (h : 18 ≤ size) : (body size kind mark b first).length = size - 4 := by
  unfold body
  simp only [List.length_append, head_len, List.length_replicate, List.length_take]
  omega
def sect (size : Nat) (kind : UInt8) (mark : Int) (b : List UInt8) (first : Bool) : List UInt8 := body size kind mark b first ++ be 4 (crc (body size kind mark b first))
theorem sect_len (size : Nat) (kind : UInt8) (mark : Int) (b : List UInt8) (first : Bool) (h : 18 ≤ size) : (sect size kind mark b first).length = size := by
  unfold sect
  rw [List.length_append, body_len _ _ _ _ _ h, be_len]
  omega
/-- What a disk is, told the first k sectors of a record. -/
def secs (size at_ : Nat) (kind : UInt8) (mark : Int) (b : List UInt8) (k : Nat) : List (Nat × Sect) := (List.range k).map fun i => (at_ + i, ⟨some (sect size kind mark (b.drop (i * (size - 18))) (i == 0)), false⟩)
def putD (d : Dsk) (at_ : Nat) (kind : UInt8) (mark : Int) (b : List UInt8) (k : Nat) : Dsk := { d with wait := d.wait ++ secs d.size at_ kind mark b k }
theorem putD_zero (d : Dsk) (at_ : Nat) (kind : UInt8) (mark : Int) (b : List UInt8) : putD d at_ kind mark b 0 = d := by simp [putD, secs]
theorem putD_succ (d : Dsk) (at_ : Nat) (kind : UInt8) (mark : Int) (b : List UInt8) (k : Nat) : putD d at_ kind mark b (k + 1) = (putD d at_ kind mark b k).write (at_ + k) (sect d.size kind mark (b.drop (k * (d.size - 18))) (k == 0)) := by
  simp [putD, secs, Dsk.write, List.range_succ]
/-- The rows that Put makes of noughts, one behind the other. -/
def row1 (size : Nat) (kind : UInt8) : List UInt8 := (List.replicate size 0).set 0 kind
def row2 (size : Nat) (kind : UInt8) (mark : Int) : List UInt8 := spl (row1 size kind) 1 (be 8 (mk64 mark))
def row3 (size : Nat) (kind : UInt8) (mark : Int) (len : Nat) : List UInt8 := spl (row2 size kind mark) 9 (be 4 len)
def row4 (size : Nat) (kind : UInt8) (mark : Int) (len : Nat) (first : Bool) : List UInt8 := if first then (row3 size kind mark len).set 13 1 else row3 size kind mark len
def row5 (size : Nat) (kind : UInt8) (mark : Int) (b : List UInt8) (first : Bool) : List UInt8 := spl (row4 size kind mark b.length first) 14 (b.take (size - 18))
theorem row1_eq (size : Nat) (kind : UInt8) (h : 19 ≤ size) : row1 size kind = [kind] ++ List.replicate (size - 1) 0 := by
  have := set_end [] size kind (by omega)
  simpa [row1] using this
theorem row2_eq (size : Nat) (kind : UInt8) (mark : Int) (h : 19 ≤ size) : row2 size kind mark = ([kind] ++ be 8 (mk64 mark)) ++ List.replicate (size - 9) 0 := by
  have := spl_end [kind] (size - 1) (be 8 (mk64 mark)) (by rw [be_len]; omega)
  unfold row2
  rw [row1_eq _ _ h]
  rw [be_len] at this
  exact this
theorem row3_eq (size : Nat) (kind : UInt8) (mark : Int) (len : Nat) (h : 19 ≤ size) : row3 size kind mark len = ([kind] ++ be 8 (mk64 mark) ++ be 4 len) ++ List.replicate (size - 13) 0 := by
  have := spl_end ([kind] ++ be 8 (mk64 mark)) (size - 9) (be 4 len) (by rw [be_len]; omega)
  unfold row3
  rw [row2_eq _ _ _ h]
  rw [be_len, show ([kind] ++ be 8 (mk64 mark)).length = 9 by simp [be_len], show size - 9 - 4 = size - 13 by omega] at this
  exact this
theorem row4_eq (size : Nat) (kind : UInt8) (mark : Int) (len : Nat) (first : Bool) (h : 19 ≤ size) : row4 size kind mark len first = head kind mark len first ++ List.replicate (size - 14) 0 := by
  unfold row4
  rw [row3_eq _ _ _ _ h]
  have h13 : ([kind] ++ be 8 (mk64 mark) ++ be 4 len).length = 13 := by simp [be_len]
  cases first
  · rw [if_neg (by decide)]
    unfold head
    rw [if_neg (by decide), List.append_assoc _ [0]]
    congr 1
    rw [show size - 13 = (size - 14) + 1 by omega, List.replicate_succ]
    rfl
  · rw [if_pos rfl]
    have := set_end ([kind] ++ be 8 (mk64 mark) ++ be 4 len) (size - 13) 1 (by omega)
    rw [h13, show size - 13 - 1 = size - 14 by omega] at this
    exact this
theorem row5_eq (size : Nat) (kind : UInt8) (mark : Int) (b : List UInt8) (first : Bool) (h : 19 ≤ size) : row5 size kind mark b first = body size kind mark b first ++ List.replicate 4 0 := by
  have hl : (b.take (size - 18)).length ≤ size - 18 := by simp; omega
  have := spl_end (head kind mark b.length first) (size - 14) (b.take (size - 18)) (by omega)
  unfold row5
  rw [row4_eq _ _ _ _ _ h]
  rw [head_len] at this
  rw [this]
  unfold body
  rw [List.append_assoc _ (List.replicate _ 0), List.replicate_append_replicate]
  congr 2
  omega
theorem row5_take (size : Nat) (kind : UInt8) (mark : Int) (b : List UInt8) (first : Bool) (h : 19 ≤ size) : (row5 size kind mark b first).take (size - 4) = body size kind mark b first := by
  rw [row5_eq _ _ _ _ _ h]
  exact List.take_left' (body_len _ _ _ _ _ (by omega))
theorem row6_eq (size : Nat) (kind : UInt8) (mark : Int) (b : List UInt8) (first : Bool) (h : 19 ≤ size) : spl (row5 size kind mark b first) (size - 4) (be 4 (crc (body size kind mark b first))) = sect size kind mark b first := by
  have := spl_end (body size kind mark b first) 4 (be 4 (crc (body size kind mark b first))) (by rw [be_len]; omega)
  rw [row5_eq _ _ _ _ _ h]
  rw [body_len _ _ _ _ _ (by omega), be_len] at this
  rw [this]
  unfold sect
  simp
theorem row1_len (size : Nat) (kind : UInt8) : (row1 size kind).length = size := by simp [row1]
theorem row2_len (size : Nat) (kind : UInt8) (mark : Int) (h : 19 ≤ size) : (row2 size kind mark).length = size := by rw [row2_eq _ _ _ h]; simp [be_len]; omega
theorem row3_len (size : Nat) (kind : UInt8) (mark : Int) (len : Nat) (h : 19 ≤ size) : (row3 size kind mark len).length = size := by rw [row3_eq _ _ _ _ h]; simp [be_len]; omega
theorem row4_len (size : Nat) (kind : UInt8) (mark : Int) (len : Nat) (first : Bool) (h : 19 ≤ size) : (row4 size kind mark len first).length = size := by rw [row4_eq _ _ _ _ _ h]; simp [head_len]; omega
theorem row5_len (size : Nat) (kind : UInt8) (mark : Int) (b : List UInt8) (first : Bool) (h : 19 ≤ size) : (row5 size kind mark b first).length = size := by rw [row5_eq _ _ _ _ _ h, List.length_append, body_len _ _ _ _ _ (by omega)]; simp; omega
/-- What Put tells. -/
def putE (d : Dsk) (at_ : Int) (kind : UInt8) (len : Nat) : Int :=
  if d.has at_ = false ∨ kind = 0 then 1 else if need d.size len < 1 ∨ (d.last.length : Int) - at_ < need d.size len then 5 else if d.off then 10 else 0
def putN (d : Dsk) (at_ : Int) (kind : UInt8) (len : Nat) : Int := if putE d at_ kind len = 0 then need d.size len else 0
def putS (d : Dsk) (at_ : Int) (kind : UInt8) (mark : Int) (b : List UInt8) : Dsk := if putE d at_ kind b.length = 0 then putD d at_.toNat kind mark b (need d.size b.length).toNat else d
end Go.Proofs.YtendnkklbeiegaaGreatDoor.PageP
namespace Go.Proofs.YtendnkklbeiegaaGreatDoor.PageP
open DiskP

structure Sec where
  kind : UInt8
  mark : Int
  left : Nat
  first : Bool
  bytes : List UInt8
/-- Bytes from a place up to another one. -/
def sub (l : List UInt8) (a b : Nat) : List UInt8 := (l.take b).drop a
theorem sub_len (l : List UInt8) (a b : Nat) (h : b ≤ l.length) : (sub l a b).length = b - a := by simp [sub]; omega
/-- 64 bits as a number of both signs. -/
def sg64 (n : Nat) : Int := if n < 9223372036854775808 then (n : Int) else (n : Int) - 18446744073709551616
def rdMany (l : List UInt8) : Nat := min (beN (sub l 9 13)) (l.length - 4 - 14)
/-- Is it a sector of a record? -/
def rdOK (l : List UInt8) : Bool :=
  decide (19 ≤ l.length) && decide (beN (l.drop (l.length - 4)) = crc (l.take (l.length - 4))) && decide (l.getD 0 0 ≠ 0) && decide ((l.getD 13 0).toNat ≤ 1) && decide (beN (sub l 9 13) ≤ 1073741824) &&
    (decide (l.getD 13 0 = 1) || decide (beN (sub l 9 13) ≠ 0)) && plainB (sub l (14 + rdMany l) (l.length - 4))
def rdS (l : List UInt8) : Sec := ⟨l.getD 0 0, sg64 (beN (sub l 1 9)), beN (sub l 9 13), decide (l.getD 13 0 = 1), sub l 14 (14 + rdMany l)⟩
def rd (l : List UInt8) : Option Sec := if rdOK l then some (rdS l) else none
/-- The record that begins at a sector: what is told of sectors is a function; n sectors are left; out: what was read. -/
def getP (d : Dsk) (at_ : Int) : Nat → Nat → Sec → List UInt8 → Int × UInt8 × Int × List UInt8 × Int
  | 0, _, _, _ => (8, 0, 0, [], 0)
  | fuel + 1, i, hd, out =>
    if d.readE (at_ + i) ≠ 0 then (d.readE (at_ + i), 0, 0, [], 0)
    else if i = 0 ∧ plainB (d.readL (at_ + i)) = true then (2, 0, 0, [], 0)
    else match rd (d.readL (at_ + i)) with
      | none => (8, 0, 0, [], 0)
      | some x =>
        if i = 0 ∧ x.first = false then (2, 0, 0, [], 0)
        else
          let hd' := if i = 0 then x else hd
          if 0 < i ∧ (x.first = true ∨ x.kind ≠ hd'.kind ∨ x.mark ≠ hd'.mark ∨ x.left + out.length ≠ hd'.left) then (8, 0, 0, [], 0)
          else
            let out' := out ++ x.bytes
            if out'.length = hd'.left then (0, hd'.kind, hd'.mark, out', (i : Int) + 1)
            else getP d at_ fuel (i + 1) hd' out'
end Go.Proofs.YtendnkklbeiegaaGreatDoor.PageP
namespace Go.Proofs.YtendnkklbeiegaaGreatDoor.PageP
open DiskP

theorem be_snoc (m n : Nat) : be (m + 1) n = be m (n / 256) ++ [UInt8.ofNat n] := by
  unfold be
  rw [List.range_succ, List.map_append]
  congr 1
  · apply List.map_congr_left
    intro i hi
    rw [List.mem_range] at hi
    rw [Nat.div_div_eq_div_mul, ← Nat.pow_succ', show m + 1 - 1 - i = m - 1 - i + 1 by omega]
  · simp
theorem beN_be (m : Nat) : ∀ n, n < 256 ^ m → beN (be m n) = n := by
  induction m with
  | zero => intro n h; simp at h; subst h; rfl
  | succ m ih =>
    intro n h
    rw [be_snoc, beN_snoc, ih (n / 256) (by rw [Nat.pow_succ] at h; omega), UInt8.toNat_ofNat']
    omega
theorem sg64_mk64 (mark : Int) (h1 : -9223372036854775808 ≤ mark) (h2 : mark ≤ 9223372036854775807) : sg64 (mk64 mark) = mark := by
  unfold sg64 mk64
  split <;> omega
theorem sub_at (a b c : List UInt8) (i j : Nat) (hi : i = a.length) (hj : j = a.length + b.length) : sub (a ++ b ++ c) i j = b := by
  subst hi hj
  unfold sub
  rw [← List.length_append, List.take_left, List.drop_left]
theorem getD_at (a c : List UInt8) (x : UInt8) (i : Nat) (hi : i = a.length) : (a ++ [x] ++ c).getD i 0 = x := by
  subst hi
  simp [List.getD]
theorem plain_zero (n : Nat) : plainB (List.replicate n 0) = true := by simp [plainB]
theorem rd_sect (size : Nat) (kind : UInt8) (mark : Int) (b : List UInt8) (first : Bool) (h : 19 ≤ size) (hk : kind ≠ 0) (hb : b.length ≤ 1073741824) (hf : first = true ∨ b ≠ []) (h1 : -9223372036854775808 ≤ mark) (h2 : mark ≤ 9223372036854775807) :
    rd (sect size kind mark b first) = some ⟨kind, mark, b.length, first, b.take (size - 18)⟩ := by
  have hlen := sect_len size kind mark b first (by omega)
  have hbl := body_len size kind mark b first (by omega)
  have d1 : (sect size kind mark b first).drop (size - 4) = be 4 (crc (body size kind mark b first)) := by unfold sect; rw [← hbl, List.drop_left]
  have d2 : (sect size kind mark b first).take (size - 4) = body size kind mark b first := by unfold sect; rw [← hbl, List.take_left]
  have e : sect size kind mark b first = [kind] ++ be 8 (mk64 mark) ++ be 4 b.length ++ [if first then 1 else 0] ++ b.take (size - 18) ++ List.replicate (size - 18 - (b.take (size - 18)).length) 0 ++ be 4 (crc (body size kind mark b first)) := by
    unfold sect body head
    simp only [List.append_assoc]
  have hC := crc_lt (body size kind mark b first)
  generalize hCC : crc (body size kind mark b first) = C at *
  generalize hZ : List.replicate (size - 18 - (b.take (size - 18)).length) (0 : UInt8) = Z at *
  have hZl : Z.length = size - 18 - (b.take (size - 18)).length := by rw [← hZ, List.length_replicate]
  have hT : (b.take (size - 18)).length = min b.length (size - 18) := by rw [List.length_take, Nat.min_comm]
  have s1 : sub (sect size kind mark b first) 1 9 = be 8 (mk64 mark) := by
    rw [e]; simp only [List.append_assoc]; rw [← List.append_assoc]; exact sub_at _ _ _ _ _ rfl (by simp [be_len])
  have s2 : sub (sect size kind mark b first) 9 13 = be 4 b.length := by
    rw [e]; simp only [List.append_assoc]; rw [← List.append_assoc, ← List.append_assoc]; exact sub_at _ _ _ _ _ (by simp [be_len]) (by simp [be_len])
  have g0 : (sect size kind mark b first).getD 0 0 = kind := by rw [e]; simp
  have g13 : (sect size kind mark b first).getD 13 0 = if first then 1 else 0 := by
    have : sect size kind mark b first = ([kind] ++ be 8 (mk64 mark) ++ be 4 b.length) ++ [if first then 1 else 0] ++ (b.take (size - 18) ++ Z ++ be 4 C) := by rw [e]; simp only [List.append_assoc]
    rw [this]; exact getD_at _ _ _ _ (by simp [be_len])
  have hN : beN (be 4 b.length) = b.length := beN_be 4 _ (by omega)
  have hM : rdMany (sect size kind mark b first) = min b.length (size - 18) := by unfold rdMany; rw [s2, hN, hlen]; congr 1
  have s3 : sub (sect size kind mark b first) 14 (14 + min b.length (size - 18)) = b.take (size - 18) := by
    have : sect size kind mark b first = ([kind] ++ be 8 (mk64 mark) ++ be 4 b.length ++ [if first then 1 else 0]) ++ b.take (size - 18) ++ (Z ++ be 4 C) := by rw [e]; simp only [List.append_assoc]
    rw [this]; exact sub_at _ _ _ _ _ (by simp [be_len]) (by rw [hT]; simp [be_len])
  have s4 : sub (sect size kind mark b first) (14 + min b.length (size - 18)) (size - 4) = Z := by
    have : sect size kind mark b first = ([kind] ++ be 8 (mk64 mark) ++ be 4 b.length ++ [if first then 1 else 0] ++ b.take (size - 18)) ++ Z ++ (be 4 C) := by rw [e]
    rw [this]; exact sub_at _ _ _ _ _ (by rw [← hT]; simp [be_len]; omega) (by rw [hZl]; simp [be_len]; omega)
  have ok : rdOK (sect size kind mark b first) = true := by
    unfold rdOK
    rw [hlen, d1, d2, g0, g13, s2, hM, s4, ← hZ, plain_zero, hN, beN_be 4 C (by omega)]
    have hb' : decide (b.length ≤ 1073741824) = true := decide_eq_true hb
    rw [hCC, hb', decide_eq_true h, decide_eq_true (show C = C from rfl), decide_eq_true hk]
    cases first with
    | true => rfl
    | false =>
      have hne : b.length ≠ 0 := fun e => by rcases hf with hf | hf; cases hf; exact hf (List.length_eq_zero_iff.1 e)
      rw [decide_eq_true hne]
      rfl
  unfold rd rdS
  rw [if_pos ok, g0, s1, s2, g13, hM, s3, hN, beN_be 8 _ (mk64_lt mark), sg64_mk64 mark h1 h2]
  cases first <;> simp
/- ### What is told behind a Put -/
theorem told_write (d : Dsk) (n : Nat) (l : List UInt8) : (d.write n l).told = d.told.set n ⟨some l, false⟩ := toldW_snoc _ _ _
theorem told_len (d : Dsk) : d.told.length = d.last.length := applyW_length _ _
theorem putD_last (d : Dsk) (a : Nat) (kind : UInt8) (mark : Int) (b : List UInt8) (k : Nat) : (putD d a kind mark b k).last = d.last := rfl
theorem told_put (d : Dsk) (a : Nat) (kind : UInt8) (mark : Int) (b : List UInt8) (k i : Nat) (hi : i < k) (ha : a + k ≤ d.last.length) :
    (putD d a kind mark b k).told[a + i]? = some ⟨some (sect d.size kind mark (b.drop (i * (d.size - 18))) (i == 0)), false⟩ := by
  induction k with
  | zero => omega
  | succ k ih =>
    rw [putD_succ, told_write]
    by_cases h : i = k
    · subst h
      rw [List.getElem?_set_self (by rw [told_len, putD_last]; omega)]
    · rw [List.getElem?_set_ne (by omega)]
      exact ih (by omega) (by omega)
theorem told_put_far (d : Dsk) (a : Nat) (kind : UInt8) (mark : Int) (b : List UInt8) (k j : Nat) (hj : j < a ∨ a + k ≤ j) :
    (putD d a kind mark b k).told[j]? = d.told[j]? := by
  induction k with
  | zero => rw [putD_zero]
  | succ k ih =>
    rw [putD_succ, told_write, List.getElem?_set_ne (by omega)]
    exact ih (by omega)
theorem read_told (d : Dsk) (n : Nat) (l : List UInt8) (r : Bool) (h : d.told[n]? = some ⟨some l, r⟩) (ho : d.off = false) : d.readE n = 0 ∧ d.readL n = l := by
  have hlt : n < d.last.length := by
    rw [← told_len]
    exact (List.getElem?_eq_some_iff.1 h).1
  have hh : d.has n = true := by unfold Dsk.has; simp; omega
  have he : d.readE n = 0 := by
    unfold Dsk.readE
    rw [hh, ho, Int.toNat_natCast, h]
    rfl
  refine ⟨he, ?_⟩
  unfold Dsk.readL Dsk.readB
  rw [if_pos he, Int.toNat_natCast, h]
  rfl
theorem plain_sect (size : Nat) (kind : UInt8) (mark : Int) (b : List UInt8) (first : Bool) (hk : kind ≠ 0) : plainB (sect size kind mark b first) = false := by
  unfold sect body head plainB
  simp [hk]
/-- A record stands there: its sectors, one behind the other. -/
def Stands (d : Dsk) (a : Nat) (kind : UInt8) (mark : Int) (b : List UInt8) (nn : Nat) : Prop :=
  ∀ i, i < nn → ∃ r, d.told[a + i]? = some ⟨some (sect d.size kind mark (b.drop (i * (d.size - 18))) (i == 0)), r⟩
theorem get_stands (d : Dsk) (a : Nat) (kind : UInt8) (mark : Int) (b : List UInt8) (nn : Nat) (h19 : 19 ≤ d.size) (hk : kind ≠ 0) (hb : b.length ≤ 1073741824) (h1 : -9223372036854775808 ≤ mark) (h2 : mark ≤ 9223372036854775807) (ho : d.off = false)
    (hS : Stands d a kind mark b nn) (_hn1 : 1 ≤ nn) (hn2 : ∀ i, 1 ≤ i → i < nn → i * (d.size - 18) < b.length) (hn3 : b.length ≤ nn * (d.size - 18)) :
    ∀ (m i fuel : Nat) (hd : Sec), nn - i = m → i < nn → m ≤ fuel → (0 < i → hd.kind = kind ∧ hd.mark = mark ∧ hd.left = b.length) → getP d a fuel i hd (b.take (i * (d.size - 18))) = (0, kind, mark, b, (nn : Int)) := by
  intro m
  induction m with
  | zero => intro i fuel hd hm hi; omega
  | succ m ih =>
    intro i fuel hd hm hi hf hh
    obtain ⟨fuel, rfl⟩ : ∃ f, fuel = f + 1 := ⟨fuel - 1, by omega⟩
    obtain ⟨r, hr⟩ := hS i hi
    obtain ⟨e1, e2⟩ := read_told d (a + i) _ r hr ho
    have hip : i * (d.size - 18) ≤ b.length ∧ (0 < i → i * (d.size - 18) < b.length) := by
      by_cases h0 : i = 0
      · subst h0; simp
      · have := hn2 i (by omega) hi; exact ⟨by omega, fun _ => this⟩
    have hrd := rd_sect d.size kind mark (b.drop (i * (d.size - 18))) (i == 0) h19 hk (by simp; omega) (by
      by_cases h0 : i = 0
      · subst h0; exact .inl rfl
      · refine .inr fun e => ?_
        have := congrArg List.length e
        have := hip.2 (by omega)
        simp at *
        omega) h1 h2
    rw [show ((a + i : Nat) : Int) = (a : Int) + (i : Int) by omega] at e1 e2
    unfold getP
    rw [if_neg (by rw [e1]; simp), e2, if_neg (by rw [plain_sect _ _ _ _ _ hk]; simp), hrd]
    simp only
    have hout : b.take (i * (d.size - 18)) ++ (b.drop (i * (d.size - 18))).take (d.size - 18) = b.take ((i + 1) * (d.size - 18)) := by
      rw [Nat.add_mul, Nat.one_mul, List.take_add]
    have hol : (b.take (i * (d.size - 18))).length = i * (d.size - 18) := by rw [List.length_take]; omega
    rw [if_neg (by rintro ⟨h0, hx⟩; subst h0; cases hx)]
    have hleft : (b.drop (i * (d.size - 18))).length = b.length - i * (d.size - 18) := List.length_drop
    have hout2 : (b.take ((i + 1) * (d.size - 18))).length = min ((i + 1) * (d.size - 18)) b.length := List.length_take
    generalize hH : (if i = 0 then (⟨kind, mark, (b.drop (i * (d.size - 18))).length, i == 0, (b.drop (i * (d.size - 18))).take (d.size - 18)⟩ : Sec) else hd) = H
    have hHk : H.kind = kind ∧ H.mark = mark ∧ H.left = b.length := by
      by_cases h0 : i = 0
      · rw [if_pos h0] at hH
        subst hH h0
        simp
      · rw [if_neg h0] at hH
        subst hH
        exact hh (by omega)
    obtain ⟨k1, k2, k3⟩ := hHk
    rw [if_neg (by
      rintro ⟨h0, hx | hx | hx | hx⟩
      · rw [show (i == 0) = false by simp; omega] at hx; cases hx
      · exact hx k1.symm
      · exact hx k2.symm
      · rw [hleft, hol, k3] at hx; omega), hout, k1, k2, k3]
    by_cases hl : b.length ≤ (i + 1) * (d.size - 18)
    · rw [if_pos (by rw [hout2]; omega), List.take_of_length_le hl]
      have : i + 1 = nn := by
        rcases Nat.lt_or_ge (i + 1) nn with hlt | hge
        · have := hn2 (i + 1) (by omega) hlt; omega
        · omega
      rw [← this]
      rfl
    · rw [if_neg (by rw [hout2]; omega)]
      have hlt : i + 1 < nn := by
        rcases Nat.lt_or_ge (i + 1) nn with hlt | hge
        · exact hlt
        · have : nn * (d.size - 18) ≤ (i + 1) * (d.size - 18) := Nat.mul_le_mul_right _ hge
          omega
      exact ih (i + 1) fuel H (by omega) hlt (by omega) (fun _ => ⟨k1, k2, k3⟩)
/-- What Get tells. -/
def getR (d : Dsk) (at_ : Int) : Int × UInt8 × Int × List UInt8 × Int :=
  if d.has at_ = false then (1, 0, 0, [], 0) else getP d at_ (d.last.length - at_.toNat) 0 ⟨0, 0, 0, false, []⟩ []
theorem need_nat (size len : Nat) (h : 1 ≤ need size len) : ∃ nn : Nat, need size len = (nn : Int) ∧ 1 ≤ nn ∧ (∀ i, 1 ≤ i → i < nn → i * (size - 18) < len) ∧ len ≤ nn * (size - 18) := by
  obtain ⟨h1, h2, h3, h4⟩ := need_pos h
  have hp : 1 ≤ size - 18 := by omega
  unfold need
  rw [if_neg (by omega)]
  have e : ((len : Int) + ((size : Int) - 18) - 1) / ((size : Int) - 18) = (((len + (size - 18) - 1) / (size - 18) : Nat) : Int) := by
    rw [Int.natCast_ediv]
    congr 1 <;> omega
  rw [e]
  generalize hp' : size - 18 = p at *
  have hd := Nat.div_add_mod (len + p - 1) p
  have hm := Nat.mod_lt (len + p - 1) (show 0 < p by omega)
  generalize (len + p - 1) / p = q at *
  generalize (len + p - 1) % p = r at *
  have hq : p * q = q * p := Nat.mul_comm _ _
  split
  · refine ⟨1, rfl, Nat.le_refl _, fun i _ _ => by omega, ?_⟩
    have : q = 0 := by omega
    subst this
    omega
  · refine ⟨q, rfl, by omega, fun i hi hi2 => ?_, by omega⟩
    have : (i + 1) * p ≤ q * p := Nat.mul_le_mul_right _ hi2
    rw [Nat.add_mul] at this
    omega
theorem getR_stands (d : Dsk) (a : Nat) (kind : UInt8) (mark : Int) (b : List UInt8) (nn : Nat) (hk : kind ≠ 0) (h1 : -9223372036854775808 ≤ mark) (h2 : mark ≤ 9223372036854775807) (ho : d.off = false)
    (hn : need d.size b.length = (nn : Int)) (hn1 : 1 ≤ nn) (ha : a + nn ≤ d.last.length) (hS : Stands d a kind mark b nn) : getR d a = (0, kind, mark, b, (nn : Int)) := by
  obtain ⟨q1, q2, q3, q4⟩ := need_pos (size := d.size) (bytes := b.length) (by omega)
  obtain ⟨mm, e1, e2, e3, e4⟩ := need_nat d.size b.length (by omega)
  have : mm = nn := by omega
  subst this
  unfold getR
  rw [if_neg (by unfold Dsk.has; simp; omega)]
  have := get_stands d a kind mark b mm (by omega) hk (by omega) h1 h2 ho hS e2 e3 e4 mm 0 (d.last.length - a) ⟨0, 0, 0, false, []⟩ rfl e2 (by omega) (fun h => absurd h (by omega))
  rw [Nat.zero_mul, List.take_zero] at this
  rw [Int.toNat_natCast]
  exact this
end Go.Proofs.YtendnkklbeiegaaGreatDoor.PageP
namespace Go.Proofs.YtendnkklbeiegaaGreatDoor.PageP
open DiskP

/-- One sector more of a record that stands there. -/
theorem get_step (d : Dsk) (a : Nat) (kind : UInt8) (mark : Int) (b : List UInt8) (h19 : 19 ≤ d.size) (hk : kind ≠ 0) (hb : b.length ≤ 1073741824) (h1 : -9223372036854775808 ≤ mark) (h2 : mark ≤ 9223372036854775807) (ho : d.off = false)
    (i fuel : Nat) (hd : Sec) (r : Bool) (hr : d.told[a + i]? = some ⟨some (sect d.size kind mark (b.drop (i * (d.size - 18))) (i == 0)), r⟩) (hi : 0 < i → i * (d.size - 18) < b.length) (hh : 0 < i → hd.kind = kind ∧ hd.mark = mark ∧ hd.left = b.length) :
    ∃ H : Sec, H.kind = kind ∧ H.mark = mark ∧ H.left = b.length ∧ getP d a (fuel + 1) i hd (b.take (i * (d.size - 18))) =
      if b.length ≤ (i + 1) * (d.size - 18) then (0, kind, mark, b, (i : Int) + 1) else getP d a fuel (i + 1) H (b.take ((i + 1) * (d.size - 18))) := by
  obtain ⟨e1, e2⟩ := read_told d (a + i) _ r hr ho
  have hip : i * (d.size - 18) ≤ b.length := by
    by_cases h0 : i = 0
    · subst h0; simp
    · have := hi (by omega); omega
  have hrd := rd_sect d.size kind mark (b.drop (i * (d.size - 18))) (i == 0) h19 hk (by simp; omega) (by
    by_cases h0 : i = 0
    · subst h0; exact .inl rfl
    · refine .inr fun e => ?_
      have := congrArg List.length e
      have := hi (by omega)
      simp at *
      omega) h1 h2
  rw [show ((a + i : Nat) : Int) = (a : Int) + (i : Int) by omega] at e1 e2
  have hout : b.take (i * (d.size - 18)) ++ (b.drop (i * (d.size - 18))).take (d.size - 18) = b.take ((i + 1) * (d.size - 18)) := by
    rw [Nat.add_mul, Nat.one_mul, List.take_add]
  have hol : (b.take (i * (d.size - 18))).length = i * (d.size - 18) := by rw [List.length_take]; omega
  have hleft : (b.drop (i * (d.size - 18))).length = b.length - i * (d.size - 18) := List.length_drop
  have hout2 : (b.take ((i + 1) * (d.size - 18))).length = min ((i + 1) * (d.size - 18)) b.length := List.length_take
  obtain ⟨H, hH⟩ : ∃ H, (if i = 0 then (⟨kind, mark, (b.drop (i * (d.size - 18))).length, i == 0, (b.drop (i * (d.size - 18))).take (d.size - 18)⟩ : Sec) else hd) = H := ⟨_, rfl⟩
  have hHk : H.kind = kind ∧ H.mark = mark ∧ H.left = b.length := by
    by_cases h0 : i = 0
    · rw [if_pos h0] at hH
      subst hH h0
      simp
    · rw [if_neg h0] at hH
      subst hH
      exact hh (by omega)
  obtain ⟨k1, k2, k3⟩ := hHk
  refine ⟨H, k1, k2, k3, ?_⟩
  conv => lhs; unfold getP
  rw [if_neg (by rw [e1]; simp), e2, if_neg (by rw [plain_sect _ _ _ _ _ hk]; simp), hrd]
  simp only
  rw [if_neg (by rintro ⟨h0, hx⟩; subst h0; cases hx), hH]
  rw [if_neg (by
    rintro ⟨h0, hx | hx | hx | hx⟩
    · rw [show (i == 0) = false by simp; omega] at hx; cases hx
    · exact hx k1.symm
    · exact hx k2.symm
    · rw [hleft, hol, k3] at hx; omega), hout, k1, k2, k3]
  by_cases hl : b.length ≤ (i + 1) * (d.size - 18)
  · rw [if_pos (by rw [hout2]; omega), List.take_of_length_le hl, if_pos hl]
  · rw [if_neg (by rw [hout2]; omega), if_neg hl]
/-- With a sector that is none, or of another mark, a record is told as none. -/
theorem get_broken (d : Dsk) (a : Nat) (kind : UInt8) (mark : Int) (b : List UInt8) (nn j : Nat) (h19 : 19 ≤ d.size) (hk : kind ≠ 0) (hb : b.length ≤ 1073741824) (h1 : -9223372036854775808 ≤ mark) (h2 : mark ≤ 9223372036854775807) (ho : d.off = false)
    (hS : ∀ i, i < j → ∃ r, d.told[a + i]? = some ⟨some (sect d.size kind mark (b.drop (i * (d.size - 18))) (i == 0)), r⟩) (hj : j < nn) (hn2 : ∀ i, 1 ≤ i → i < nn → i * (d.size - 18) < b.length)
    (hbad : d.readE ((a : Int) + (j : Int)) ≠ 0 ∨ rd (d.readL ((a : Int) + (j : Int))) = none ∨ (0 < j ∧ ∃ x, rd (d.readL ((a : Int) + (j : Int))) = some x ∧ x.mark ≠ mark)) :
    ∀ (m i fuel : Nat) (hd : Sec), j - i = m → i ≤ j → (0 < i → hd.kind = kind ∧ hd.mark = mark ∧ hd.left = b.length) → (getP d a fuel i hd (b.take (i * (d.size - 18)))).1 ≠ 0 := by
  intro m
  induction m with
  | zero =>
    intro i fuel hd hm hi hh
    obtain rfl : i = j := by omega
    cases fuel with
    | zero => unfold getP; decide
    | succ fuel =>
      unfold getP
      by_cases hE : d.readE ((a : Int) + (i : Int)) ≠ 0
      · rw [if_pos hE]; exact hE
      · rw [if_neg hE]
        by_cases hp : i = 0 ∧ plainB (d.readL ((a : Int) + (i : Int))) = true
        · rw [if_pos hp]; decide
        · rw [if_neg hp]
          rcases hbad with h | h | ⟨h0, x, h, hx⟩
          · exact absurd h hE
          · rw [h]; show (8 : Int) ≠ 0; decide
          · rw [h]
            simp only
            rw [if_neg (by omega), if_neg (show ¬ i = 0 by omega), if_pos ⟨h0, .inr (.inr (.inl (by rw [(hh h0).2.1]; exact hx)))⟩]
            decide
  | succ m ih =>
    intro i fuel hd hm hi hh
    cases fuel with
    | zero => unfold getP; decide
    | succ fuel =>
      obtain ⟨r, hr⟩ := hS i (by omega)
      obtain ⟨H, k1, k2, k3, he⟩ := get_step d a kind mark b h19 hk hb h1 h2 ho i fuel hd r hr (fun h0 => hn2 i h0 (by omega)) hh
      rw [he]
      have := hn2 (i + 1) (by omega) (by omega)
      rw [if_neg (by omega)]
      exact ih (i + 1) fuel H (by omega) (by omega) (fun _ => ⟨k1, k2, k3⟩)
end Go.Proofs.YtendnkklbeiegaaGreatDoor.PageP
namespace Go.Proofs.YtendnkklbeiegaaGreatDoor.ExtP

abbrev Ex := Nat × Nat
/-- Rising, none touching the next one, all between lo and hi. -/
structure GoodX (lo hi : Nat) (fs : List Ex) : Prop where
  pw : fs.Pairwise fun x y => x.1 + x.2 < y.1
  pos : ∀ x ∈ fs, 1 ≤ x.2
  lo_ : ∀ x ∈ fs, lo ≤ x.1
  hi_ : ∀ x ∈ fs, x.1 + x.2 ≤ hi
def FreeX (fs : List Ex) (s : Nat) : Prop := ∃ x ∈ fs, x.1 ≤ s ∧ s < x.1 + x.2
theorem FreeX.nil (s : Nat) : ¬ FreeX [] s := fun ⟨_, h, _⟩ => by cases h
theorem FreeX.app {a b : List Ex} {s : Nat} : FreeX (a ++ b) s ↔ FreeX a s ∨ FreeX b s := by
  unfold FreeX
  constructor
  · rintro ⟨x, hx, h⟩
    rcases List.mem_append.1 hx with hx | hx
    · exact .inl ⟨x, hx, h⟩
    · exact .inr ⟨x, hx, h⟩
  · rintro (⟨x, hx, h⟩ | ⟨x, hx, h⟩)
    · exact ⟨x, List.mem_append_left _ hx, h⟩
    · exact ⟨x, List.mem_append_right _ hx, h⟩
theorem FreeX.cons {f : Ex} {b : List Ex} {s : Nat} : FreeX (f :: b) s ↔ (f.1 ≤ s ∧ s < f.1 + f.2) ∨ FreeX b s := by
  unfold FreeX
  simp
theorem GoodX.one {lo hi a n : Nat} (h1 : lo ≤ a) (h2 : a + n ≤ hi) (h3 : 1 ≤ n) : GoodX lo hi [(a, n)] := ⟨by simp, by simp [h3], by simp [h1], by simp [h2]⟩
theorem GoodX.nil (lo hi : Nat) : GoodX lo hi [] := ⟨by simp, by simp, by simp, by simp⟩
theorem GoodX.app {lo hi : Nat} {a b : List Ex} (h : GoodX lo hi (a ++ b)) : GoodX lo hi a ∧ GoodX lo hi b ∧ ∀ x ∈ a, ∀ y ∈ b, x.1 + x.2 < y.1 := by
  have hp := List.pairwise_append.1 h.pw
  exact ⟨⟨hp.1, fun x hx => h.pos x (List.mem_append_left _ hx), fun x hx => h.lo_ x (List.mem_append_left _ hx), fun x hx => h.hi_ x (List.mem_append_left _ hx)⟩,
    ⟨hp.2.1, fun x hx => h.pos x (List.mem_append_right _ hx), fun x hx => h.lo_ x (List.mem_append_right _ hx), fun x hx => h.hi_ x (List.mem_append_right _ hx)⟩, hp.2.2⟩
theorem GoodX.join {lo hi : Nat} {a b : List Ex} (ha : GoodX lo hi a) (hb : GoodX lo hi b) (h : ∀ x ∈ a, ∀ y ∈ b, x.1 + x.2 < y.1) : GoodX lo hi (a ++ b) :=
  ⟨List.pairwise_append.2 ⟨ha.pw, hb.pw, h⟩, fun x hx => (List.mem_append.1 hx).elim (ha.pos x) (hb.pos x), fun x hx => (List.mem_append.1 hx).elim (ha.lo_ x) (hb.lo_ x), fun x hx => (List.mem_append.1 hx).elim (ha.hi_ x) (hb.hi_ x)⟩
theorem cut_at {fs : List Ex} {i : Nat} {f : Ex} (h : fs[i]? = some f) : fs = fs.take i ++ f :: fs.drop (i + 1) := by
  obtain ⟨hi, rfl⟩ := List.getElem?_eq_some_iff.1 h
  rw [← List.drop_eq_getElem_cons hi, List.take_append_drop]
theorem GoodX.len {lo hi : Nat} : ∀ {fs : List Ex}, GoodX lo hi fs → fs.length ≤ hi - lo
  | [], _ => Nat.zero_le _
  | x :: fs, h => by
    have h1 : GoodX lo hi ([x] ++ fs) := h
    obtain ⟨h2, h3, h4⟩ := h1.app
    have h5 : GoodX (x.1 + 1) hi fs := ⟨h3.pw, h3.pos, fun y hy => by have := h4 x (by simp) y hy; omega, h3.hi_⟩
    have h6 := GoodX.len h5
    have h7 := h.lo_ x (by simp)
    have h8 := h.hi_ x (by simp)
    have h9 := h.pos x (by simp)
    rw [List.length_cons]
    omega
/-- What is left of a stretch without one of its sectors. -/
def leftA (f : Ex) (a : Nat) : List Ex := if f.1 < a then [(f.1, a - f.1)] else []
def leftB (f : Ex) (a : Nat) : List Ex := if a + 1 < f.1 + f.2 then [(a + 1, f.1 + f.2 - (a + 1))] else []
def takeL (fs : List Ex) (i : Nat) (f : Ex) (a : Nat) : List Ex := fs.take i ++ ((leftA f a ++ leftB f a) ++ fs.drop (i + 1))
theorem left_mem {f : Ex} {a : Nat} (h1 : f.1 ≤ a) (h2 : a < f.1 + f.2) {x : Ex} (hx : x ∈ leftA f a ++ leftB f a) : f.1 ≤ x.1 ∧ x.1 + x.2 ≤ f.1 + f.2 ∧ 1 ≤ x.2 := by
  unfold leftA leftB at hx
  rcases List.mem_append.1 hx with hx | hx
  · split at hx
    · simp at hx; subst hx; simp only; omega
    · simp at hx
  · split at hx
    · simp at hx; subst hx; simp only; omega
    · simp at hx
theorem left_pw {f : Ex} {a : Nat} : (leftA f a ++ leftB f a).Pairwise fun x y => x.1 + x.2 < y.1 := by
  refine List.pairwise_append.2 ⟨?_, ?_, ?_⟩
  · unfold leftA; split <;> simp
  · unfold leftB; split <;> simp
  · intro x hx y hy
    unfold leftA at hx
    unfold leftB at hy
    split at hx
    · split at hy
      · simp at hx hy; subst hx hy; simp only; omega
      · simp at hy
    · simp at hx
theorem left_free {f : Ex} {a s : Nat} (h1 : f.1 ≤ a) (h2 : a < f.1 + f.2) : FreeX (leftA f a ++ leftB f a) s ↔ (f.1 ≤ s ∧ s < f.1 + f.2) ∧ s ≠ a := by
  rw [FreeX.app]
  unfold leftA leftB
  by_cases q1 : f.1 < a
  · by_cases q2 : a + 1 < f.1 + f.2
    · rw [if_pos q1, if_pos q2, FreeX.cons, FreeX.cons]
      simp only [iff_false_intro (FreeX.nil s), or_false]
      omega
    · rw [if_pos q1, if_neg q2, FreeX.cons]
      simp only [iff_false_intro (FreeX.nil s), or_false]
      omega
  · by_cases q2 : a + 1 < f.1 + f.2
    · rw [if_neg q1, if_pos q2, FreeX.cons]
      simp only [iff_false_intro (FreeX.nil s), or_false, false_or]
      omega
    · rw [if_neg q1, if_neg q2]
      constructor
      · rintro (h | h)
        · exact absurd h (FreeX.nil s)
        · exact absurd h (FreeX.nil s)
      · intro h
        omega
theorem take_good {lo hi : Nat} {fs : List Ex} {i a : Nat} {f : Ex} (h : GoodX lo hi fs) (hf : fs[i]? = some f) (h1 : f.1 ≤ a) (h2 : a < f.1 + f.2) : GoodX lo hi (takeL fs i f a) ∧ ∀ s, FreeX (takeL fs i f a) s ↔ FreeX fs s ∧ s ≠ a := by
  have e := cut_at hf
  unfold takeL
  generalize fs.take i = A at e ⊢
  generalize fs.drop (i + 1) = B at e ⊢
  subst e
  obtain ⟨gA, gfB, hAB⟩ := h.app
  have gfB' : GoodX lo hi ([f] ++ B) := gfB
  obtain ⟨gf, gB, hfB⟩ := gfB'.app
  have hl : ∀ x ∈ leftA f a ++ leftB f a, _ := fun x hx => left_mem h1 h2 hx
  have flo := gf.lo_ f (by simp)
  have fhi := gf.hi_ f (by simp)
  have gL : GoodX lo hi (leftA f a ++ leftB f a) := ⟨left_pw, fun x hx => (hl x hx).2.2, fun x hx => by have := (hl x hx).1; omega, fun x hx => by have := (hl x hx).2.1; omega⟩
  refine ⟨gA.join (gL.join gB fun x hx y hy => by have := (hl x hx).2.1; have := hfB f (by simp) y hy; omega) fun x hx y hy => ?_, fun s => ?_⟩
  · rcases List.mem_append.1 hy with hy | hy
    · have := (hl y hy).1; have := hAB x hx f (by simp); omega
    · exact hAB x hx y (by simp [hy])
  · rw [FreeX.app, FreeX.app, left_free h1 h2, FreeX.app, FreeX.cons]
    have nA : FreeX A s → s ≠ a := by
      rintro ⟨x, hx, h3, h4⟩
      have := hAB x hx f (by simp)
      omega
    have nB : FreeX B s → s ≠ a := by
      rintro ⟨x, hx, h3, h4⟩
      have := hfB f (by simp) x hx
      omega
    constructor
    · rintro (h3 | h3 | h3)
      · exact ⟨.inl h3, nA h3⟩
      · exact ⟨.inr (.inl h3.1), h3.2⟩
      · exact ⟨.inr (.inr h3), nB h3⟩
    · rintro ⟨h3 | h3 | h3, h4⟩
      · exact .inl h3
      · exact .inr (.inl ⟨h3, h4⟩)
      · exact .inr (.inr h3)
/-- The first stretch that ends behind a sector. -/
structure MeetsX (fs : List Ex) (a i : Nat) : Prop where
  le : i ≤ fs.length
  before : ∀ j x, j < i → fs[j]? = some x → x.1 + x.2 ≤ a
  behind : ∀ j x, i ≤ j → fs[j]? = some x → a < x.1 + x.2
theorem GoodX.rise {lo hi : Nat} {fs : List Ex} (h : GoodX lo hi fs) {i j : Nat} {x y : Ex} (hx : fs[i]? = some x) (hy : fs[j]? = some y) (hij : i < j) : x.1 + x.2 < y.1 := by
  obtain ⟨h1, rfl⟩ := List.getElem?_eq_some_iff.1 hx
  obtain ⟨h2, rfl⟩ := List.getElem?_eq_some_iff.1 hy
  exact List.pairwise_iff_getElem.1 h.pw i j h1 h2 hij
theorem MeetsX.free {lo hi : Nat} {fs : List Ex} {a i : Nat} (h : GoodX lo hi fs) (m : MeetsX fs a i) : FreeX fs a ↔ ∃ f, fs[i]? = some f ∧ f.1 ≤ a := by
  constructor
  · rintro ⟨x, hx, h1, h2⟩
    obtain ⟨j, hj⟩ := List.getElem?_of_mem hx
    rcases Nat.lt_trichotomy j i with h3 | h3 | h3
    · have := m.before j x h3 hj; omega
    · subst h3; exact ⟨x, hj, h1⟩
    · have hlt : i < fs.length := by have := (List.getElem?_eq_some_iff.1 hj).1; omega
      have := h.rise (List.getElem?_eq_getElem hlt) hj h3
      have := m.behind i _ (Nat.le_refl _) (List.getElem?_eq_getElem hlt)
      omega
  · rintro ⟨f, hf, h1⟩
    exact ⟨f, List.mem_of_getElem? hf, h1, m.behind i f (Nat.le_refl _) hf⟩
theorem MeetsX.same {fs : List Ex} {a i j : Nat} (h : MeetsX fs a i) (k : MeetsX fs a j) : j = i := by
  have h1 := h.le
  have h2 := k.le
  rcases Nat.lt_trichotomy i j with h3 | h3 | h3
  · have hl : i < fs.length := by omega
    have := k.before i _ h3 (List.getElem?_eq_getElem hl)
    have := h.behind i _ (Nat.le_refl _) (List.getElem?_eq_getElem hl)
    omega
  · exact h3.symm
  · have hl : j < fs.length := by omega
    have := h.before j _ h3 (List.getElem?_eq_getElem hl)
    have := k.behind j _ (Nat.le_refl _) (List.getElem?_eq_getElem hl)
    omega
/-- A row with one stretch in the place of those between i and j. -/
theorem give_good {lo hi : Nat} {fs : List Ex} {a i : Nat} (h : GoodX lo hi fs) (m : MeetsX fs a i) (hn : ¬ FreeX fs a) (hlo : lo ≤ a) (hhi : a < hi) (u v A L : Nat) (hu : (u = i ∧ A = a ∧ ∀ k x, k + 1 = i → fs[k]? = some x → x.1 + x.2 < a) ∨ (∃ x, u + 1 = i ∧ fs[u]? = some x ∧ x.1 + x.2 = a ∧ A = x.1))
    (hv : (v = i ∧ A + L = a + 1 ∧ ∀ y, fs[i]? = some y → a + 1 < y.1) ∨ (∃ y, v = i + 1 ∧ fs[i]? = some y ∧ y.1 = a + 1 ∧ A + L = y.1 + y.2)) :
    GoodX lo hi (fs.take u ++ ([(A, L)] ++ fs.drop v)) ∧ ∀ s, FreeX (fs.take u ++ ([(A, L)] ++ fs.drop v)) s ↔ FreeX fs s ∨ s = a := by
  have hb : ∀ j y, i ≤ j → fs[j]? = some y → a < y.1 := by
    intro j y hj hy
    have h1 := m.behind j y hj hy
    rcases Nat.lt_or_ge a y.1 with h2 | h2
    · exact h2
    · exact absurd ⟨y, List.mem_of_getElem? hy, h2, h1⟩ hn
  have hA : A ≤ a ∧ lo ≤ A := by
    rcases hu with ⟨_, rfl, _⟩ | ⟨x, h1, h2, h3, rfl⟩
    · exact ⟨Nat.le_refl _, hlo⟩
    · have := h.lo_ x (List.mem_of_getElem? h2); omega
  have hL : a + 1 ≤ A + L ∧ A + L ≤ hi := by
    rcases hv with ⟨_, h1, _⟩ | ⟨y, _, h2, h3, h4⟩
    · omega
    · have := h.hi_ y (List.mem_of_getElem? h2); omega
  have memT : ∀ x ∈ fs.take u, ∃ k, k < u ∧ fs[k]? = some x := fun x hx => by
    obtain ⟨k, hk⟩ := List.getElem?_of_mem hx
    rw [List.getElem?_take] at hk
    split at hk
    · exact ⟨k, by assumption, hk⟩
    · cases hk
  have memD : ∀ y ∈ fs.drop v, ∃ k, v ≤ k ∧ fs[k]? = some y := fun y hy => by
    obtain ⟨k, hk⟩ := List.getElem?_of_mem hy
    rw [List.getElem?_drop] at hk
    exact ⟨v + k, by omega, hk⟩
  have hT : ∀ x ∈ fs.take u, x.1 + x.2 < A := fun x hx => by
    obtain ⟨k, hk, hkx⟩ := memT x hx
    rcases hu with ⟨rfl, rfl, h1⟩ | ⟨z, h1, h2, h3, rfl⟩
    · by_cases hk1 : k + 1 = u
      · exact h1 k x hk1 hkx
      · have hlt : k + 1 < fs.length := by have := m.le; omega
        have := h.rise hkx (List.getElem?_eq_getElem hlt) (by omega)
        have := m.before (k + 1) _ (by omega) (List.getElem?_eq_getElem hlt)
        omega
    · exact h.rise hkx h2 hk
  have hD : ∀ y ∈ fs.drop v, A + L < y.1 := fun y hy => by
    obtain ⟨k, hk, hky⟩ := memD y hy
    rcases hv with ⟨rfl, h1, h2⟩ | ⟨z, rfl, h2, h3, h4⟩
    · by_cases hk1 : k = v
      · subst hk1; have := h2 y hky; omega
      · have hlt : v < fs.length := by have := (List.getElem?_eq_some_iff.1 hky).1; omega
        have := h.rise (List.getElem?_eq_getElem hlt) hky (by omega)
        have := h2 _ (List.getElem?_eq_getElem hlt)
        omega
    · have := h.rise h2 hky (by omega)
      omega
  have gT : GoodX lo hi (fs.take u) := (GoodX.app (b := fs.drop u) (by rw [List.take_append_drop]; exact h)).1
  have gD : GoodX lo hi (fs.drop v) := (GoodX.app (a := fs.take v) (by rw [List.take_append_drop]; exact h)).2.1
  refine ⟨gT.join ((GoodX.one hA.2 (by omega) (by omega)).join gD fun x hx y hy => ?_) fun x hx y hy => ?_, fun s => ?_⟩
  · simp at hx; subst hx; exact hD y hy
  · rcases List.mem_append.1 hy with hy | hy
    · simp at hy; subst hy; exact hT x hx
    · have := hT x hx; have := hD y hy; omega
  · rw [FreeX.app, FreeX.app, FreeX.cons]
    simp only [iff_false_intro (FreeX.nil s), or_false]
    constructor
    · rintro (⟨x, hx, h1⟩ | h1 | ⟨x, hx, h1⟩)
      · obtain ⟨k, _, hk⟩ := memT x hx; exact .inl ⟨x, List.mem_of_getElem? hk, h1⟩
      · by_cases hs : s = a
        · exact .inr hs
        · refine .inl ?_
          rcases Nat.lt_or_ge s a with h2 | h2
          · rcases hu with ⟨_, rfl, _⟩ | ⟨x, _, h3, h4, rfl⟩
            · omega
            · exact ⟨x, List.mem_of_getElem? h3, h1.1, by omega⟩
          · rcases hv with ⟨_, h3, _⟩ | ⟨y, _, h3, h4, h5⟩
            · omega
            · exact ⟨y, List.mem_of_getElem? h3, by omega, by omega⟩
      · obtain ⟨k, _, hk⟩ := memD x hx; exact .inl ⟨x, List.mem_of_getElem? hk, h1⟩
    · rintro (⟨x, hx, h1, h2⟩ | rfl)
      · obtain ⟨k, hk⟩ := List.getElem?_of_mem hx
        by_cases k1 : k < u
        · refine .inl ⟨x, List.mem_of_getElem? (i := k) (by rw [List.getElem?_take, if_pos k1]; exact hk), h1, h2⟩
        · by_cases k2 : v ≤ k
          · refine .inr (.inr ⟨x, List.mem_of_getElem? (i := k - v) (by rw [List.getElem?_drop, show v + (k - v) = k by omega]; exact hk), h1, h2⟩)
          · refine .inr (.inl ?_)
            rcases hu with ⟨rfl, hu2, _⟩ | ⟨z, hu1, hu2, hu3, hu4⟩
            · rcases hv with ⟨hv1, _⟩ | ⟨z, hv1, hv2, hv3, hv4⟩
              · omega
              · obtain rfl : k = u := by omega
                obtain rfl := Option.some.inj (hk.symm.trans hv2)
                have := (m.behind k x (Nat.le_refl _) hk)
                omega
            · by_cases hku : k = u
              · subst hku
                obtain rfl := Option.some.inj (hk.symm.trans hu2)
                omega
              · rcases hv with ⟨hv1, _⟩ | ⟨z, hv1, hv2, hv3, hv4⟩
                · omega
                · obtain rfl : k = i := by omega
                  obtain rfl := Option.some.inj (hk.symm.trans hv2)
                  omega
      · exact .inr (.inl (by omega))
end Go.Proofs.YtendnkklbeiegaaGreatDoor.ExtP
