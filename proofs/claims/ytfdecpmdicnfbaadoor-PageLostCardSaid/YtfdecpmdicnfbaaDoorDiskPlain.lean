/-
  A disk of sectors, in plain words: what lasts of each sector, and the writes that wait; no program in sight.
-/
namespace Go.Proofs.YtfdecpmdicnfbaaDoor.DiskP

/-- What stands in a sector: its bytes (none: it is torn), and whether a bit of it was turned. -/
structure Sect where
  bytes : Option (List UInt8)
  rot : Bool
def zeroS (size : Nat) : Sect := ⟨some (List.replicate size 0), false⟩
def tornS : Sect := ⟨none, false⟩
structure Dsk where
  size : Nat
  last : List Sect
  wait : List (Nat × Sect)
  off : Bool

section
variable {α β : Type}
/-- The last write of a sector among those that wait. -/
def lastIdx : List (Nat × α) → Nat → Option Nat
  | [], _ => none
  | x :: ws, n => match lastIdx ws n with
    | some i => some (i + 1)
    | none => if x.1 = n then some 0 else none
def lastW : List (Nat × α) → Nat → Option α
  | [], _ => none
  | x :: ws, n => match lastW ws n with
    | some y => some y
    | none => if x.1 = n then some x.2 else none
/-- Writes last, in order. -/
def applyW (l : List α) (ws : List (Nat × α)) : List α := ws.foldl (fun l x => l.set x.1 x.2) l
theorem applyW_length (l : List α) (ws : List (Nat × α)) : (applyW l ws).length = l.length := by
  induction ws generalizing l with
  | nil => rfl
  | cons x ws ih => show (applyW (l.set x.1 x.2) ws).length = _; rw [ih]; simp
theorem applyW_append (l : List α) (a b : List (Nat × α)) : applyW l (a ++ b) = applyW (applyW l a) b := List.foldl_append
theorem applyW_get (l : List α) (ws : List (Nat × α)) (i : Nat) (hi : i < l.length) : (applyW l ws)[i]? = some ((lastW ws i).getD l[i]) := by
  induction ws generalizing l with
  | nil => simp [applyW, lastW, hi]
  | cons x ws ih =>
    show (applyW (l.set x.1 x.2) ws)[i]? = _
    rw [ih _ (by simpa using hi)]
    congr 1
    rw [lastW]
    cases h : lastW ws i with
    | some y => rfl
    | none =>
      simp only [Option.getD_none]
      rw [List.getElem_set]
      split <;> simp_all
theorem lastW_snoc (ws : List (Nat × α)) (x : Nat × α) (n : Nat) : lastW (ws ++ [x]) n = if x.1 = n then some x.2 else lastW ws n := by
  induction ws with
  | nil => simp [lastW]
  | cons y ws ih =>
    show lastW (y :: (ws ++ [x])) n = _
    rw [lastW, ih]
    by_cases h : x.1 = n
    · simp [h]
    · simp [h, lastW]
theorem lastIdx_snoc (ws : List (Nat × α)) (x : Nat × α) (n : Nat) : lastIdx (ws ++ [x]) n = if x.1 = n then some ws.length else lastIdx ws n := by
  induction ws with
  | nil => simp [lastIdx]
  | cons y ws ih =>
    show lastIdx (y :: (ws ++ [x])) n = _
    rw [lastIdx, ih]
    by_cases h : x.1 = n
    · simp [h]
    · simp [h, lastIdx]
theorem lastW_idx (ws : List (Nat × α)) (n : Nat) : lastW ws n = (lastIdx ws n).bind fun i => (ws[i]?).map (·.2) := by
  induction ws with
  | nil => rfl
  | cons x ws ih =>
    rw [lastW, lastIdx, ih]
    cases h : lastIdx ws n with
    | some i =>
      simp only [Option.bind_some]
      cases h2 : ws[i]? with
      | some y => simp [h2]
      | none =>
        -- an index that lastIdx tells is there
        exfalso
        have : ∀ (l : List (Nat × α)) i, lastIdx l n = some i → i < l.length := by
          intro l
          induction l with
          | nil => intro i hi; cases hi
          | cons y l ihl =>
            intro i hi
            rw [lastIdx] at hi
            cases hl : lastIdx l n with
            | some k => rw [hl] at hi; injection hi with hi; have := ihl k hl; simp; omega
            | none =>
              rw [hl] at hi
              simp only at hi
              split at hi
              · injection hi with hi; simp; omega
              · cases hi
        have hlt := this ws i h
        rw [List.getElem?_eq_getElem hlt] at h2
        cases h2
    | none =>
      simp only [Option.bind_none]
      by_cases hx : x.1 = n
      · simp [hx]
      · simp [hx]
theorem lastIdx_lt {ws : List (Nat × α)} {n i : Nat} (h : lastIdx ws n = some i) : ∃ y, ws[i]? = some (n, y) := by
  induction ws generalizing i with
  | nil => cases h
  | cons x ws ih =>
    rw [lastIdx] at h
    cases hl : lastIdx ws n with
    | some k =>
      rw [hl] at h
      injection h with h
      subst h
      obtain ⟨y, hy⟩ := ih hl
      exact ⟨y, by simpa using hy⟩
    | none =>
      rw [hl] at h
      simp only at h
      split at h
      · rename_i hx
        injection h with h
        subst h
        exact ⟨x.2, by simp [← hx]⟩
      · cases h
theorem lastW_map (f : α → β) (ws : List (Nat × α)) (n : Nat) : lastW (ws.map fun x => (x.1, f x.2)) n = (lastW ws n).map f := by
  induction ws with
  | nil => rfl
  | cons x ws ih =>
    show lastW ((x.1, f x.2) :: ws.map fun x => (x.1, f x.2)) n = _
    rw [lastW, ih, lastW]
    cases lastW ws n with
    | some y => rfl
    | none => simp only [Option.map_none]; split <;> rfl
theorem lastIdx_map (f : α → β) (ws : List (Nat × α)) (n : Nat) : lastIdx (ws.map fun x => (x.1, f x.2)) n = lastIdx ws n := by
  induction ws with
  | nil => rfl
  | cons x ws ih =>
    show lastIdx ((x.1, f x.2) :: ws.map fun x => (x.1, f x.2)) n = _
    rw [lastIdx, ih, lastIdx]
theorem applyW_map (f : α → β) (l : List α) (ws : List (Nat × α)) : applyW (l.map f) (ws.map fun x => (x.1, f x.2)) = (applyW l ws).map f := by
  induction ws generalizing l with
  | nil => rfl
  | cons x ws ih =>
    show applyW ((l.map f).set x.1 (f x.2)) (ws.map fun x => (x.1, f x.2)) = _
    rw [← List.map_set, ih]; rfl
/-- What is told of a sector. -/
def toldW (l : List α) (ws : List (Nat × α)) : List α := applyW l ws
theorem toldW_snoc (l : List α) (ws : List (Nat × α)) (x : Nat × α) : applyW l (ws ++ [x]) = (applyW l ws).set x.1 x.2 := by rw [applyW_append]; rfl
end

def newD (n size : Nat) : Dsk := ⟨size, List.replicate n (zeroS size), [], false⟩
def Dsk.told (d : Dsk) : List Sect := applyW d.last d.wait
def Dsk.write (d : Dsk) (n : Nat) (l : List UInt8) : Dsk := { d with wait := d.wait ++ [(n, ⟨some l, false⟩)] }
def Dsk.flush (d : Dsk) : Dsk := { d with last := applyW d.last d.wait, wait := [] }
/-- Of writes those that last when the power fails. -/
def keepW {α : Type} (keep : List Bool) (torn : Int) (z : α) : Nat → List (Nat × α) → List (Nat × α)
  | _, [] => []
  | i, x :: ws => if (i : Int) = torn then (x.1, z) :: keepW keep torn z (i + 1) ws else if keep.getD i false then x :: keepW keep torn z (i + 1) ws else keepW keep torn z (i + 1) ws
def Dsk.cut (d : Dsk) (keep : List Bool) (torn : Int) : Dsk := if d.off then d else { d with last := applyW d.last (keepW keep torn tornS 0 d.wait), wait := [], off := true }
def Dsk.on (d : Dsk) : Dsk := { d with off := false }
/-- Bytes with a bit turned. -/
def turnBit (l : List UInt8) (bit : Nat) : List UInt8 := l.set (bit / 8) ((l.getD (bit / 8) 0) ^^^ UInt8.ofNat (2 ^ (bit % 8)))
def Sect.turn (s : Sect) (bit : Nat) : Sect := ⟨s.bytes.map (turnBit · bit), true⟩
def Dsk.rotted (d : Dsk) (n bit : Nat) : Dsk :=
  match lastIdx d.wait n with
  | some i => { d with wait := d.wait.modify i fun x => (x.1, x.2.turn bit) }
  | none => { d with last := d.last.modify n (Sect.turn · bit) }
/-- What a call tells: 0 is all right. -/
def Dsk.has (d : Dsk) (n : Int) : Bool := decide (0 ≤ n) && decide (n < d.last.length)
def Dsk.readE (d : Dsk) (n : Int) : Int :=
  if d.has n = false then 1 else if d.off then 10 else match d.told[n.toNat]? with
    | some s => if s.bytes.isNone then 9 else 0
    | none => 1
def Dsk.readB (d : Dsk) (n : Nat) : List UInt8 := ((d.told[n]?).bind (·.bytes)).getD []
def Dsk.readL (d : Dsk) (n : Int) : List UInt8 := if d.readE n = 0 then d.readB n.toNat else []
def Dsk.writeE (d : Dsk) (n : Int) (l : List UInt8) : Int := if d.has n = false then 1 else if l.length ≠ d.size then 1 else if d.off then 10 else 0
def Dsk.rotE (d : Dsk) (n bit : Int) : Int :=
  if d.has n = false then 1 else if bit < 0 then 1 else if 8 * (d.size : Int) ≤ bit then 1 else if d.off then 10 else match d.told[n.toNat]? with
    | some s => if s.bytes.isNone then 9 else if s.rot then 11 else 0
    | none => 1

/- ### Cut -/
section
variable {α β : Type}
/-- What becomes of one write when the power fails. -/
def keep1 (keep : List Bool) (torn : Int) (z : α) (i : Nat) (x : Nat × α) : List (Nat × α) := if (i : Int) = torn then [(x.1, z)] else if keep.getD i false then [x] else []
theorem keepW_cons (keep : List Bool) (torn : Int) (z : α) (i : Nat) (x : Nat × α) (ws : List (Nat × α)) : keepW keep torn z i (x :: ws) = keep1 keep torn z i x ++ keepW keep torn z (i + 1) ws := by
  rw [keepW]
  unfold keep1
  split
  · rfl
  · split <;> rfl
theorem keepW_snoc (keep : List Bool) (torn : Int) (z : α) (i : Nat) (ws : List (Nat × α)) (x : Nat × α) : keepW keep torn z i (ws ++ [x]) = keepW keep torn z i ws ++ keep1 keep torn z (i + ws.length) x := by
  induction ws generalizing i with
  | nil =>
    show keepW keep torn z i [x] = _
    rw [keepW_cons]
    simp [keepW]
  | cons y ws ih =>
    show keepW keep torn z i (y :: (ws ++ [x])) = _
    rw [keepW_cons, keepW_cons, ih, List.append_assoc, show i + 1 + ws.length = i + (y :: ws).length by simp; omega]
theorem keepW_map (f : α → β) (keep : List Bool) (torn : Int) (z : α) (i : Nat) (ws : List (Nat × α)) : keepW keep torn (f z) i (ws.map fun x => (x.1, f x.2)) = (keepW keep torn z i ws).map fun x => (x.1, f x.2) := by
  induction ws generalizing i with
  | nil => rfl
  | cons x ws ih =>
    show keepW keep torn (f z) i ((x.1, f x.2) :: ws.map fun x => (x.1, f x.2)) = _
    rw [keepW_cons, keepW_cons, ih, List.map_append]
    congr 1
    unfold keep1
    split
    · rfl
    · split <;> rfl
/-- A torn write behind all is no matter. -/
theorem keepW_z (keep : List Bool) (torn : Int) (z z' : α) (i : Nat) (ws : List (Nat × α)) (h : ((i + ws.length : Nat) : Int) ≤ torn) : keepW keep torn z i ws = keepW keep torn z' i ws := by
  induction ws generalizing i with
  | nil => rfl
  | cons x ws ih =>
    rw [keepW_cons, keepW_cons, ih (i + 1) (by simp at h ⊢; omega)]
    congr 1
    unfold keep1
    have : ¬ (i : Int) = torn := by simp at h; omega
    rw [if_neg this, if_neg this]
theorem keepW_mem {keep : List Bool} {torn : Int} {z : α} {i : Nat} {ws : List (Nat × α)} {x : Nat × α} (h : x ∈ keepW keep torn z i ws) : (x ∈ ws) ∨ (x.2 = z ∧ ∃ m : Nat, ((i + m : Nat) : Int) = torn ∧ ∃ a, ws[m]? = some (x.1, a)) := by
  induction ws generalizing i with
  | nil => cases h
  | cons y ws ih =>
    rw [keepW_cons] at h
    rcases List.mem_append.1 h with h | h
    · unfold keep1 at h
      split at h
      · rename_i ht
        simp at h; subst h; exact .inr ⟨rfl, 0, by simpa using ht, y.2, rfl⟩
      · split at h
        · simp at h; subst h; exact .inl (by simp)
        · cases h
    · rcases ih h with h | ⟨h1, m, hm, a, ha⟩
      · exact .inl (by simp [h])
      · exact .inr ⟨h1, m + 1, by omega, a, by simpa using ha⟩
theorem keepW_sect {keep : List Bool} {torn : Int} {z : α} {i : Nat} {ws : List (Nat × α)} {x : Nat × α} (h : x ∈ keepW keep torn z i ws) : ∃ y ∈ ws, y.1 = x.1 := by
  rcases keepW_mem h with h | ⟨_, m, _, a, ha⟩
  · exact ⟨x, h, rfl⟩
  · exact ⟨_, List.mem_of_getElem? ha, rfl⟩
theorem lastW_none {ws : List (Nat × α)} {n : Nat} (h : ∀ x ∈ ws, x.1 ≠ n) : lastW ws n = none := by
  induction ws with
  | nil => rfl
  | cons x ws ih =>
    rw [lastW, ih (fun y hy => h y (by simp [hy]))]
    simp [h x (by simp)]
theorem lastW_mem {ws : List (Nat × α)} {n : Nat} {a : α} (h : lastW ws n = some a) : (n, a) ∈ ws := by
  induction ws with
  | nil => cases h
  | cons x ws ih =>
    rw [lastW] at h
    cases hl : lastW ws n with
    | some b => rw [hl] at h; simp only at h; injection h with h; subst h; simp [ih hl]
    | none =>
      rw [hl] at h
      simp only at h
      split at h
      · rename_i hx
        injection h with h
        subst h hx
        simp
      · cases h
/-- Told anew: what waited is told as it lasts. -/
theorem retold (l l' : List α) (ws ks : List (Nat × α)) (hl : l' = applyW l ks) (hk : ∀ x ∈ ks, ∃ y ∈ ws, y.1 = x.1) (d : α) :
    applyW (applyW l ws) (ws.map fun x => (x.1, l'.getD x.1 d)) = l' := by
  have hlen : l'.length = l.length := by rw [hl, applyW_length]
  apply List.ext_getElem?
  intro i
  by_cases hi : i < l.length
  · rw [applyW_get _ _ i (by rw [applyW_length]; exact hi)]
    by_cases hex : ∃ y ∈ ws, y.1 = i
    · have : ∃ a, lastW (ws.map fun x => (x.1, l'.getD x.1 d)) i = some a := by
        cases h0 : lastW (ws.map fun x => (x.1, l'.getD x.1 d)) i with
        | some a => exact ⟨a, rfl⟩
        | none =>
          exfalso
          obtain ⟨y, hy, hyi⟩ := hex
          have key : ∀ (m : List (Nat × α)), (∃ z ∈ m, z.1 = i) → lastW m i ≠ none := by
            intro m
            induction m with
            | nil => rintro ⟨_, h, _⟩; cases h
            | cons u m ih =>
              rintro ⟨z, hz, hzi⟩
              rw [lastW]
              cases hm : lastW m i with
              | some b => simp
              | none =>
                rcases List.mem_cons.1 hz with rfl | hz
                · simp [hzi]
                · exact absurd hm (ih ⟨z, hz, hzi⟩)
          exact key _ ⟨(y.1, l'.getD y.1 d), List.mem_map.2 ⟨y, hy, rfl⟩, hyi⟩ h0
      obtain ⟨a, ha⟩ := this
      rw [ha]
      have hm := lastW_mem ha
      simp only [List.mem_map] at hm
      obtain ⟨x, _, hx⟩ := hm
      injection hx with h1 h2
      rw [List.getElem?_eq_getElem (by omega), ← h2, h1]
      simp [List.getD, show i < l'.length by omega]
    · have h1 : ∀ x ∈ ws, x.1 ≠ i := fun x hx e => hex ⟨x, hx, e⟩
      have h2 : ∀ x ∈ (ws.map fun x => (x.1, l'.getD x.1 d)), x.1 ≠ i := by
        intro x hx e
        simp only [List.mem_map] at hx
        obtain ⟨y, hy, rfl⟩ := hx
        exact h1 y hy e
      have h3 : ∀ x ∈ ks, x.1 ≠ i := by
        intro x hx e
        obtain ⟨y, hy, hyx⟩ := hk x hx
        exact h1 y hy (hyx.trans e)
      rw [lastW_none h2, Option.getD_none]
      have e1 : (applyW l ws)[i]? = some l[i] := by rw [applyW_get l ws i hi, lastW_none h1]; rfl
      have e2 : l'[i]? = some l[i] := by rw [hl, applyW_get l ks i hi, lastW_none h3]; rfl
      rw [e2]
      have hlt : i < (applyW l ws).length := by rw [applyW_length]; exact hi
      rw [List.getElem?_eq_getElem hlt] at e1
      exact e1
  · rw [List.getElem?_eq_none (by rw [applyW_length, applyW_length]; omega), List.getElem?_eq_none (by omega)]
end
end Go.Proofs.YtfdecpmdicnfbaaDoor.DiskP
