/-
  Records in sectors, in plain words: numbers as bytes, a record's sectors; no program in sight.
-/
import Derived.Test.YtfdecpmdicnfbaaDoorDiskPlain
import Derived.Test.YtfdecpmdicnfbaaDoorSumPlain
namespace Go.Proofs.YtfdecpmdicnfbaaDoor.PageP
open DiskP

/-- How many sectors a record needs; for how many bytes sectors have room. -/
def need (size bytes : Int) : Int := if size < 19 ∨ 4096 < size ∨ bytes < 0 ∨ 1073741824 < bytes then 0 else if (bytes + (size - 18) - 1) / (size - 18) < 1 then 1 else (bytes + (size - 18) - 1) / (size - 18)
def room (size sectors : Int) : Int := if size < 19 ∨ 4096 < size ∨ sectors < 1 ∨ 65536 < sectors then 0 else (size - 18) * sectors
theorem need_pos {size bytes : Int} (h : 1 ≤ need size bytes) : 19 ≤ size ∧ size ≤ 4096 ∧ 0 ≤ bytes ∧ bytes ≤ 1073741824 := by
  unfold need at h
  split at h
  · omega
  · omega
/-- The number that bytes are, the highest first. -/
def beN (l : List UInt8) : Nat := l.foldl (fun n c => n * 256 + c.toNat) 0
theorem beN_snoc (l : List UInt8) (c : UInt8) : beN (l ++ [c]) = beN l * 256 + c.toNat := by simp [beN]
theorem beN_lt (l : List UInt8) : beN l < 256 ^ l.length := by
  suffices h : ∀ n (r : List UInt8), r.length = n → beN r < 256 ^ n from h _ l rfl
  intro n
  induction n with
  | zero => intro r hr; rw [List.length_eq_zero_iff.1 hr]; decide
  | succ n ih =>
    intro r hr
    obtain ⟨r', c, rfl⟩ : ∃ r' c, r = r' ++ [c] := ⟨r.dropLast, r.getLast (by intro e; subst e; simp at hr), (List.dropLast_concat_getLast _).symm⟩
    have h1 := ih r' (by simpa using hr)
    have h2 := c.toNat_lt
    rw [beN_snoc, Nat.pow_succ]
    omega
/-- A number's lowest m bytes, the highest first. -/
def be (m n : Nat) : List UInt8 := (List.range m).map fun i => UInt8.ofNat (n / 256 ^ (m - 1 - i))
theorem be_len (m n : Nat) : (be m n).length = m := by simp [be]
theorem be_get (m n i : Nat) (h : i < m) : (be m n)[i]? = some (UInt8.ofNat (n / 256 ^ (m - 1 - i))) := by simp [be, h]
/-- Bytes with others put over them, from a place on. -/
def spl (l : List UInt8) (o : Nat) (b : List UInt8) : List UInt8 := l.take o ++ b ++ l.drop (o + b.length)
theorem spl_len (l : List UInt8) (o : Nat) (b : List UInt8) (h : o + b.length ≤ l.length) : (spl l o b).length = l.length := by
  unfold spl
  simp only [List.length_append, List.length_take, List.length_drop]
  omega
theorem spl_nil (l : List UInt8) (o : Nat) : spl l o [] = l := by simp [spl]
theorem spl_step (l : List UInt8) (o k : Nat) (b : List UInt8) (c : UInt8) (hc : b[k]? = some c) (h : o + b.length ≤ l.length) : (spl l o (b.take k)).set (o + k) c = spl l o (b.take (k + 1)) := by
  obtain ⟨hk, he⟩ := List.getElem?_eq_some_iff.1 hc
  unfold spl
  have h1 : (b.take k).length = k := by simp; omega
  have h2 : (b.take (k + 1)).length = k + 1 := by simp; omega
  have h3 : (l.take o).length = o := by simp; omega
  rw [h1, h2, List.take_succ_eq_append_getElem hk, he]
  have hd : l.drop (o + k) = l[o + k]'(by omega) :: l.drop (o + (k + 1)) := List.drop_eq_getElem_cons (by omega)
  rw [hd, List.set_append_right _ _ (by simp; omega)]
  have h4 : o + k - (l.take o ++ b.take k).length = 0 := by rw [List.length_append, h1, h3]; omega
  rw [h4]
  simp
theorem spl_get (l : List UInt8) (o k : Nat) (b : List UInt8) (hk : k ≤ b.length) (h : o + b.length ≤ l.length) : ∃ c, (spl l o (b.take k))[o + k]? = some c ∨ k = b.length := by
  by_cases e : k = b.length
  · exact ⟨0, .inr e⟩
  · have : o + k < (spl l o (b.take k)).length := by rw [spl_len _ _ _ (by simp; omega)]; omega
    exact ⟨_, .inl (List.getElem?_eq_getElem this)⟩
/-- Are all bytes 0? -/
def plainB (l : List UInt8) : Bool := l.all (· == 0)
theorem spl_end (a : List UInt8) (n : Nat) (b : List UInt8) (h : b.length ≤ n) : spl (a ++ List.replicate n 0) a.length b = (a ++ b) ++ List.replicate (n - b.length) 0 := by
  unfold spl
  rw [List.take_left, List.drop_append, List.drop_of_length_le (by omega), show a.length + b.length - a.length = b.length by omega]
  simp
theorem set_end (a : List UInt8) (n : Nat) (c : UInt8) (h : 0 < n) : (a ++ List.replicate n 0).set a.length c = (a ++ [c]) ++ List.replicate (n - 1) 0 := by
  obtain ⟨n, rfl⟩ : ∃ m, n = m + 1 := ⟨n - 1, by omega⟩
  rw [List.set_append_right _ _ (Nat.le_refl _), Nat.sub_self, List.replicate_succ]
  simp
/-- The sum of bytes. -/
def crc (l : List UInt8) : Nat := (SumP.more 0 l).toNat
theorem crc_lt (l : List UInt8) : crc l < 4294967296 := (SumP.more 0 l).isLt
/-- The 64 bits of a number. -/
def mk64 (mark : Int) : Nat := (mark % 18446744073709551616).toNat
theorem mk64_lt (mark : Int) : mk64 mark < 18446744073709551616 := by unfold mk64; have := Int.emod_lt_of_pos mark (show (0 : Int) < 18446744073709551616 by decide); have := Int.emod_nonneg mark (show (18446744073709551616 : Int) ≠ 0 by decide); omega
theorem mk64_int (mark : Int) : mark % 18446744073709551616 = (mk64 mark : Int) := by unfold mk64; have := Int.emod_nonneg mark (show (18446744073709551616 : Int) ≠ 0 by decide); omega
def head (kind : UInt8) (mark : Int) (len : Nat) (first : Bool) : List UInt8 := [kind] ++ be 8 (mk64 mark) ++ be 4 len ++ [if first then 1 else 0]
theorem head_len (kind : UInt8) (mark : Int) (len : Nat) (first : Bool) : (head kind mark len first).length = 14 := by simp [head, be_len]
/-- A sector of a record: b is what is left of the record's bytes. -/
def body (size : Nat) (kind : UInt8) (mark : Int) (b : List UInt8) (first : Bool) : List UInt8 :=
  head kind mark b.length first ++ b.take (size - 18) ++ List.replicate (size - 18 - (b.take (size - 18)).length) 0
theorem body_len (size : Nat) (kind : UInt8) (mark : Int) (b : List UInt8) (first : Bool) (h : 18 ≤ size) : (body size kind mark b first).length = size - 4 := by
  unfold body
  simp only [List.length_append, head_len, List.length_replicate, List.length_take]
  omega
def sect (size : Nat) (kind : UInt8) (mark : Int) (b : List UInt8) (first : Bool) : List UInt8 := body size kind mark b first ++ be 4 (crc (body size kind mark b first))
theorem sect_len (size : Nat) (kind : UInt8) (mark : Int) (b : List UInt8) (first : Bool) (h : 18 ≤ size) : (sect size kind mark b first).length = size := by
  unfold sect
  rw [List.length_append, body_len _ _ _ _ _ h, be_len]
  omega
/-- What a disk is, told the first k sectors of a record. -/
def secs (size at_ : Nat) (kind : UInt8) (mark : Int) (b : List UInt8) (k : Nat) : List (Nat × Sect) := (List.range k).map fun i => (at_ + i, ⟨some (sect size kind mark (b.drop (i * (size - 18))) (i == 0)), false⟩)
def putD (d : Dsk) (at_ : Nat) (kind : UInt8) (mark : Int) (b : List UInt8) (k : Nat) : Dsk := { d with wait := d.wait ++ secs d.size at_ kind mark b k }
theorem putD_zero (d : Dsk) (at_ : Nat) (kind : UInt8) (mark : Int) (b : List UInt8) : putD d at_ kind mark b 0 = d := by simp [putD, secs]
theorem putD_succ (d : Dsk) (at_ : Nat) (kind : UInt8) (mark : Int) (b : List UInt8) (k : Nat) : putD d at_ kind mark b (k + 1) = (putD d at_ kind mark b k).write (at_ + k) (sect d.size kind mark (b.drop (k * (d.size - 18))) (k == 0)) := by
  simp [putD, secs, Dsk.write, List.range_succ]
/-- The rows that Put makes of noughts, one behind the other. -/
def row1 (size : Nat) (kind : UInt8) : List UInt8 := (List.replicate size 0).set 0 kind
def row2 (size : Nat) (kind : UInt8) (mark : Int) : List UInt8 := spl (row1 size kind) 1 (be 8 (mk64 mark))
def row3 (size : Nat) (kind : UInt8) (mark : Int) (len : Nat) : List UInt8 := spl (row2 size kind mark) 9 (be 4 len)
def row4 (size : Nat) (kind : UInt8) (mark : Int) (len : Nat) (first : Bool) : List UInt8 := if first then (row3 size kind mark len).set 13 1 else row3 size kind mark len
def row5 (size : Nat) (kind : UInt8) (mark : Int) (b : List UInt8) (first : Bool) : List UInt8 := spl (row4 size kind mark b.length first) 14 (b.take (size - 18))
theorem row1_eq (size : Nat) (kind : UInt8) (h : 19 ≤ size) : row1 size kind = [kind] ++ List.replicate (size - 1) 0 := by
  have := set_end [] size kind (by omega)
  simpa [row1] using this
theorem row2_eq (size : Nat) (kind : UInt8) (mark : Int) (h : 19 ≤ size) : row2 size kind mark = ([kind] ++ be 8 (mk64 mark)) ++ List.replicate (size - 9) 0 := by
  have := spl_end [kind] (size - 1) (be 8 (mk64 mark)) (by rw [be_len]; omega)
  unfold row2
  rw [row1_eq _ _ h]
  rw [be_len] at this
  exact this
theorem row3_eq (size : Nat) (kind : UInt8) (mark : Int) (len : Nat) (h : 19 ≤ size) : row3 size kind mark len = ([kind] ++ be 8 (mk64 mark) ++ be 4 len) ++ List.replicate (size - 13) 0 := by
  have := spl_end ([kind] ++ be 8 (mk64 mark)) (size - 9) (be 4 len) (by rw [be_len]; omega)
  unfold row3
  rw [row2_eq _ _ _ h]
  rw [be_len, show ([kind] ++ be 8 (mk64 mark)).length = 9 by simp [be_len], show size - 9 - 4 = size - 13 by omega] at this
  exact this
theorem row4_eq (size : Nat) (kind : UInt8) (mark : Int) (len : Nat) (first : Bool) (h : 19 ≤ size) : row4 size kind mark len first = head kind mark len first ++ List.replicate (size - 14) 0 := by
  unfold row4
  rw [row3_eq _ _ _ _ h]
  have h13 : ([kind] ++ be 8 (mk64 mark) ++ be 4 len).length = 13 := by simp [be_len]
  cases first
  · rw [if_neg (by decide)]
    unfold head
    rw [if_neg (by decide), List.append_assoc _ [0]]
    congr 1
    rw [show size - 13 = (size - 14) + 1 by omega, List.replicate_succ]
    rfl
  · rw [if_pos rfl]
    have := set_end ([kind] ++ be 8 (mk64 mark) ++ be 4 len) (size - 13) 1 (by omega)
    rw [h13, show size - 13 - 1 = size - 14 by omega] at this
    exact this
theorem row5_eq (size : Nat) (kind : UInt8) (mark : Int) (b : List UInt8) (first : Bool) (h : 19 ≤ size) : row5 size kind mark b first = body size kind mark b first ++ List.replicate 4 0 := by
  have hl : (b.take (size - 18)).length ≤ size - 18 := by simp; omega
  have := spl_end (head kind mark b.length first) (size - 14) (b.take (size - 18)) (by omega)
  unfold row5
  rw [row4_eq _ _ _ _ _ h]
  rw [head_len] at this
  rw [this]
  unfold body
  rw [List.append_assoc _ (List.replicate _ 0), List.replicate_append_replicate]
  congr 2
  omega
theorem row5_take (size : Nat) (kind : UInt8) (mark : Int) (b : List UInt8) (first : Bool) (h : 19 ≤ size) : (row5 size kind mark b first).take (size - 4) = body size kind mark b first := by
  rw [row5_eq _ _ _ _ _ h]
  exact List.take_left' (body_len _ _ _ _ _ (by omega))
theorem row6_eq (size : Nat) (kind : UInt8) (mark : Int) (b : List UInt8) (first : Bool) (h : 19 ≤ size) : spl (row5 size kind mark b first) (size - 4) (be 4 (crc (body size kind mark b first))) = sect size kind mark b first := by
  have := spl_end (body size kind mark b first) 4 (be 4 (crc (body size kind mark b first))) (by rw [be_len]; omega)
  rw [row5_eq _ _ _ _ _ h]
  rw [body_len _ _ _ _ _ (by omega), be_len] at this
  rw [this]
  unfold sect
  simp
theorem row1_len (size : Nat) (kind : UInt8) : (row1 size kind).length = size := by simp [row1]
theorem row2_len (size : Nat) (kind : UInt8) (mark : Int) (h : 19 ≤ size) : (row2 size kind mark).length = size := by rw [row2_eq _ _ _ h]; simp [be_len]; omega
theorem row3_len (size : Nat) (kind : UInt8) (mark : Int) (len : Nat) (h : 19 ≤ size) : (row3 size kind mark len).length = size := by rw [row3_eq _ _ _ _ h]; simp [be_len]; omega
theorem row4_len (size : Nat) (kind : UInt8) (mark : Int) (len : Nat) (first : Bool) (h : 19 ≤ size) : (row4 size kind mark len first).length = size := by rw [row4_eq _ _ _ _ _ h]; simp [head_len]; omega
theorem row5_len (size : Nat) (kind : UInt8) (mark : Int) (b : List UInt8) (first : Bool) (h : 19 ≤ size) : (row5 size kind mark b first).length = size := by rw [row5_eq _ _ _ _ _ h, List.length_append, body_len _ _ _ _ _ (by omega)]; simp; omega
/-- What Put tells. -/
def putE (d : Dsk) (at_ : Int) (kind : UInt8) (len : Nat) : Int :=
  if d.has at_ = false ∨ kind = 0 then 1 else if need d.size len < 1 ∨ (d.last.length : Int) - at_ < need d.size len then 5 else if d.off then 10 else 0
def putN (d : Dsk) (at_ : Int) (kind : UInt8) (len : Nat) : Int := if putE d at_ kind len = 0 then need d.size len else 0
def putS (d : Dsk) (at_ : Int) (kind : UInt8) (mark : Int) (b : List UInt8) : Dsk := if putE d at_ kind b.length = 0 then putD d at_.toNat kind mark b (need d.size b.length).toNat else d
end Go.Proofs.YtfdecpmdicnfbaaDoor.PageP
