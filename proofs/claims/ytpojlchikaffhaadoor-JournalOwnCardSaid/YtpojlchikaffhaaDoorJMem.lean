/-
  Words for memory: a slice of bytes that reads as a list.
-/
import Derived.WalkKit
import Derived.Deep.Draws
import Derived.Laws.OwnMore
import Derived.Maps.AppendAt
import Derived.Deep.AppendLies
import Derived.OwnWalk
import Derived.Test.YtpojlchikaffhaaDoorRows
import Derived.Lib.Hide
import Derived.Deep.QuietTactic
import Derived.BigQuiet
import Derived.Laws.MakeOwn
import Derived.Laws.CopyOwn
import Derived.Deep.RegionLaw
namespace Go.Proofs.YtpojlchikaffhaaDoor
open Go.RowKit

/-- A slice at A reads as the cells vs (where there are none A may be anything). -/
def RV (w : World) (A : Option Addr) (vs : List Value) : Prop :=
  vs ≠ [] → ∃ b off, A = some ⟨b, off, none⟩ ∧ b < w.heap.size ∧ ∀ j v, vs[j]? = some v → w.cell? ⟨b, off + j, none⟩ = some v
section
variable {w w' : World} {A : Option Addr} {vs : List Value}
theorem RV.at_ (h : RV w A vs) {k : Nat} (hk : k < vs.length) : ∃ b off, A = some ⟨b, off, none⟩ ∧ b < w.heap.size ∧ w.cell? ⟨b, off + k, none⟩ = some vs[k] := by
  obtain ⟨b, off, rfl, hb, hc⟩ := h (by rintro rfl; simp at hk)
  exact ⟨b, off, rfl, hb, hc k _ (List.getElem?_eq_getElem hk)⟩
theorem RV.keep (h : RV w A vs) (hs : w.heap.size ≤ w'.heap.size) (hk : ∀ p : Addr, p.block < w.heap.size → w'.cell? p = w.cell? p) : RV w' A vs := by
  intro hl
  obtain ⟨b, off, e, hb, hc⟩ := h hl
  exact ⟨b, off, e, Nat.lt_of_lt_of_le hb hs, fun j c hj => (hk _ hb).trans (hc j c hj)⟩
theorem RV.below (h : RV w A vs) (hb : Below w.heap.size w w') : RV w' A vs := h.keep hb.size fun _ hp => hb.cell hp
theorem RV.nil : RV w A [] := fun h => absurd rfl h
theorem RV.alloc (h : RV w A vs) (o : Obj) : RV (w.alloc o) A vs := h.below ((Below.refl _ _).alloc (Nat.le_refl _) o)
theorem RV.drew (h : RV w A vs) : RV w.drew A vs := h
theorem RV.drewN (h : RV w A vs) (n : Nat) : RV (w.drewN n) A vs := h
theorem RV.new (w : World) (vs : List Value) (t : TypeId) (f : Nat × Nat) : RV (w.alloc (.cells vs.toArray t f)) (some ⟨w.heap.size, 0, none⟩) vs := by
  intro _
  refine ⟨_, _, rfl, by simp, fun j c hj => ?_⟩
  rw [World.cell?_alloc_mark]
  simpa using hj
end
/-- A byte's cell; a number's. -/
def byteV (c : UInt8) : Value := .int .u8 (c.toNat : Int)
def intV (n : Int) : Value := .int .i64 n
/-- Bytes' cells; numbers'. -/
def cB (l : List UInt8) : List Value := l.map byteV
def cI (l : List Int) : List Value := l.map intV
theorem cB_len (l : List UInt8) : (cB l).length = l.length := by simp [cB]
theorem cI_len (l : List Int) : (cI l).length = l.length := by simp [cI]
theorem cB_get {l : List UInt8} {k : Nat} (h : k < (cB l).length) : (cB l)[k] = .int .u8 ((l[k]'(by rwa [cB_len] at h)).toNat : Int) := by simp [cB, byteV]
theorem cI_get {l : List Int} {k : Nat} (h : k < (cI l).length) : (cI l)[k] = .int .i64 (l[k]'(by rwa [cI_len] at h)) := by simp [cI, intV]
theorem cB_append (a b : List UInt8) : cB (a ++ b) = cB a ++ cB b := by simp [cB]
theorem cI_append (a b : List Int) : cI (a ++ b) = cI a ++ cI b := by simp [cI]
theorem cB_one (l : List UInt8) : ∀ u ∈ cB l, u.oneCell' = true := by
  intro u hu; simp only [cB, List.mem_map] at hu; obtain ⟨c, _, rfl⟩ := hu; rfl
theorem cI_one (l : List Int) : ∀ u ∈ cI l, u.oneCell' = true := by
  intro u hu; simp only [cI, List.mem_map] at hu; obtain ⟨c, _, rfl⟩ := hu; rfl
theorem one_of_int (k : IntKind) (n : Int) : ∀ u ∈ [Value.int k n], u.oneCell' = true := by
  intro u hu; simp only [List.mem_singleton] at hu; subst hu; rfl
/-- A slice at A reads as the bytes l; the numbers l. -/
def RB (w : World) (A : Option Addr) (l : List UInt8) : Prop := RV w A (cB l)
def RI (w : World) (A : Option Addr) (l : List Int) : Prop := RV w A (cI l)
section
variable {w w' : World} {A : Option Addr} {l : List UInt8}
theorem RB.at_ (h : RB w A l) {k : Nat} (hk : k < l.length) :
    ∃ b off, A = some ⟨b, off, none⟩ ∧ b < w.heap.size ∧ w.cell? ⟨b, off + k, none⟩ = some (.int .u8 (l[k].toNat : Int)) := by
  obtain ⟨b, off, e, hb, hc⟩ := RV.at_ h (k := k) (by rwa [cB_len])
  exact ⟨b, off, e, hb, by rw [hc, cB_get]⟩
theorem RB.below (h : RB w A l) (hb : Below w.heap.size w w') : RB w' A l := RV.below h hb
theorem RB.nil : RB w A [] := RV.nil
theorem RB.alloc (h : RB w A l) (o : Obj) : RB (w.alloc o) A l := RV.alloc h o
theorem RB.drew (h : RB w A l) : RB w.drew A l := h
theorem RB.drewN (h : RB w A l) (n : Nat) : RB (w.drewN n) A l := h
theorem RB.of_blk {g : Nat} {t : TypeId} {cs : Array Value} (h : w.heap[g]? = some (.cells cs t (0, 0))) (hc : cs.toList = cB l) : RB w (some ⟨g, 0, none⟩) l := by
  intro _
  refine ⟨_, _, rfl, lt_of_block h, fun j c hj => ?_⟩
  rw [cell_of_row w g _ cs t (0, 0) h, ← Array.getElem?_toList, hc, Nat.zero_add]
  exact hj
end
theorem RI.at_ {w : World} {A : Option Addr} {l : List Int} (h : RI w A l) {k : Nat} (hk : k < l.length) :
    ∃ b off, A = some ⟨b, off, none⟩ ∧ b < w.heap.size ∧ w.cell? ⟨b, off + k, none⟩ = some (.int .i64 l[k]) := by
  obtain ⟨b, off, e, hb, hc⟩ := RV.at_ h (k := k) (by rwa [cI_len])
  exact ⟨b, off, e, hb, by rw [hc, cI_get]⟩
theorem RI.below {w w' : World} {A : Option Addr} {l : List Int} (h : RI w A l) (hb : Below w.heap.size w w') : RI w' A l := RV.below h hb
/-- It gives bytes back; nothing that was there has turned. -/
def RetBytes (w : World) (l : List UInt8) (e : Ending) (w' : World) : Prop :=
  ∃ A c, e = .returned (.slice A l.length c) ∧ RB w' A l ∧ Below w.heap.size w w'

/- ### A block that is known whole -/
def Blk (w : World) (g : Nat) (t : TypeId) (cs : Array Value) : Prop := w.heap[g]? = some (.cells cs t (0, 0))
section
variable {w w' : World} {g : Nat} {t : TypeId} {cs : Array Value}
theorem Blk.lt (h : Blk w g t cs) : g < w.heap.size := lt_of_block h
theorem Blk.cell (h : Blk w g t cs) (i : Nat) : w.cell? ⟨g, i, none⟩ = cs[i]? := cell_of_row w g i cs t (0, 0) h
theorem Blk.at_ (h : Blk w g t cs) {i : Nat} {v : Value} (hv : cs[i]? = some v) : w.cell? ⟨g, i, none⟩ = some v := (h.cell i).trans hv
theorem Blk.frozen (h : Blk w g t cs) (i : Nat) : w.frozen? ⟨g, i, none⟩ = false := frozen_of_row w g i cs t h
theorem Blk.new (w : World) (t : TypeId) (cs : Array Value) : Blk (w.alloc (.cells cs t)) w.heap.size t cs := heap_alloc_new w _
theorem Blk.alloc (h : Blk w g t cs) (o : Obj) : Blk (w.alloc o) g t cs := (Below.heap_alloc w o g h.lt).trans h
theorem Blk.drew (h : Blk w g t cs) : Blk w.drew g t cs := h
theorem Blk.drewN (h : Blk w g t cs) (n : Nat) : Blk (w.drewN n) g t cs := h
theorem Blk.set_ (h : Blk w g t cs) (i : Nat) (u : Value) : Blk (w.setCell ⟨g, i, none⟩ u) g t (cs.setIfInBounds i u) := heap_setCell_same w g i cs t u h
theorem Blk.far (h : Blk w g t cs) {p : Addr} (hp : g ≠ p.block) (u : Value) : Blk (w.setCell p u) g t cs := (heap_setCell_other w p g u hp).trans h
theorem Blk.below {B : Nat} (h : Blk w g t cs) (hb : Below B w w') (hg : g < B) : Blk w' g t cs := (hb.block g hg).trans h
theorem Blk.setRow_ (h : Blk w g t cs) (cs' : Array Value) : Blk (w.setRow g cs') g t cs' := setRow_heap w g cs cs' t _ h
end
theorem below_setRow {B : Nat} {a w : World} (h : Below B a w) {g : Nat} (hg : B ≤ g) (cs : Array Value) : Below B a (w.setRow g cs) :=
  ⟨h.os, h.tape, h.output, by simpa using h.size, fun k hk => by
    have : (w.setRow g cs).heap[k]? = w.heap[k]? := by
      simp only [World.setRow, Array.getElem?_modify]
      rw [if_neg (by omega)]
    rw [this]; exact h.block k hk⟩

/- ### A row of the call's own -/
theorem add_zero_off (g j : Nat) : (⟨g, 0, none⟩ : Addr).add j = ⟨g, j, none⟩ := by unfold Addr.add; split <;> simp_all
section
variable {w : World} {base : Nat} {e : TypeId} {size n : Nat} {v : Value} {xs : List Value}
theorem own_form (h : w.ownsRow base e size v n xs) : ∃ A c, v = .slice A n c ∧ n ≤ c ∧ c ≤ maxLen := by
  rcases h.2 with ⟨rfl, rfl⟩ | ⟨g, cap, cur, rfl, _, _, hn, hm, _⟩
  · exact ⟨none, 0, rfl, Nat.le_refl _, Nat.zero_le _⟩
  · exact ⟨_, _, rfl, hn, hm⟩
theorem RV.of_own {A : Option Addr} {c : Nat} (h : w.ownsRow base e 1 (.slice A n c) n xs) : RV w A xs := by
  intro hne
  have hn : 0 < n := by have := h.1; rcases xs with _ | ⟨a, xs⟩; exact absurd rfl hne; simp at this; omega
  rcases h.2 with ⟨hv, h0⟩ | ⟨g, cap, cur, hv, _, hh, hnc, _⟩
  · omega
  · injection hv with hA
    subst hA
    refine ⟨g, 0, rfl, lt_of_block hh, fun j u hu => ?_⟩
    have := h.cells (g := g) rfl j u hu
    rw [add_zero_off] at this
    rwa [Nat.zero_add]
end
end Go.Proofs.YtpojlchikaffhaaDoor
namespace Go.Proofs.YtpojlchikaffhaaDoor.SumP

def poly : BitVec 32 := 0xEDB88320#32
/-- One step: one bit. -/
def st (s : BitVec 32) : BitVec 32 := (s >>> 1) ^^^ (if s.getLsbD 0 then poly else 0#32)
def stN : Nat → BitVec 32 → BitVec 32
  | 0, s => s
  | n + 1, s => stN n (st s)

theorem stN_add (a b : Nat) (s : BitVec 32) : stN (a + b) s = stN b (stN a s) := by
  induction a generalizing s with
  | zero => rw [Nat.zero_add]; rfl
  | succ a ih => rw [Nat.succ_add]; exact ih (st s)
theorem stN_succ (a : Nat) (s : BitVec 32) : stN (a + 1) s = st (stN a s) := stN_add a 1 s

theorem st_xor (a b : BitVec 32) : st (a ^^^ b) = st a ^^^ st b := by
  unfold st
  rw [BitVec.getLsbD_xor, BitVec.ushiftRight_xor_distrib]
  cases a.getLsbD 0 <;> cases b.getLsbD 0
  · simp
  · simp [BitVec.xor_assoc]
  · simp only [Bool.true_bne, Bool.not_false, if_true, Bool.false_eq_true, if_false, BitVec.xor_zero]; ac_rfl
  · simp only [bne_self_eq_false, Bool.false_eq_true, if_false, if_true, BitVec.xor_zero]
    rw [show a >>> 1 ^^^ poly ^^^ (b >>> 1 ^^^ poly) = a >>> 1 ^^^ b >>> 1 ^^^ (poly ^^^ poly) by ac_rfl, BitVec.xor_self, BitVec.xor_zero]
theorem st_zero : st 0#32 = 0#32 := by decide
theorem stN_xor (n : Nat) (a b : BitVec 32) : stN n (a ^^^ b) = stN n a ^^^ stN n b := by
  induction n generalizing a b with
  | zero => rfl
  | succ n ih => show stN n (st (a ^^^ b)) = _; rw [st_xor, ih]; rfl
theorem stN_zero (n : Nat) : stN n 0#32 = 0#32 := by
  induction n with
  | zero => rfl
  | succ n ih => show stN n (st 0#32) = _; rw [st_zero, ih]

/-- The step back. -/
def inv (s : BitVec 32) : BitVec 32 := if s.getLsbD 31 then ((s ^^^ poly) <<< 1) ||| 1#32 else s <<< 1
def invN : Nat → BitVec 32 → BitVec 32
  | 0, s => s
  | n + 1, s => invN n (inv s)
theorem invN_succ (a : Nat) (s : BitVec 32) : invN (a + 1) s = inv (invN a s) := by
  induction a generalizing s with
  | zero => rfl
  | succ a ih => exact ih (inv s)

theorem shl_shr (x : BitVec 32) (h : x.getLsbD 31 = false) : (x <<< 1) >>> 1 = x := by
  apply BitVec.eq_of_getLsbD_eq
  intro i hi
  simp only [BitVec.getLsbD_ushiftRight, BitVec.getLsbD_shiftLeft]
  by_cases h31 : i = 31
  · subst h31; rw [h]; simp
  · have : 1 + i < 32 := by omega
    simp [this]
theorem shl_or_shr (x : BitVec 32) (h : x.getLsbD 31 = false) : ((x <<< 1) ||| 1#32) >>> 1 = x := by
  rw [BitVec.ushiftRight_or_distrib, shl_shr x h]
  have : (1#32) >>> 1 = 0#32 := by decide
  rw [this]; simp
theorem st_inv (s : BitVec 32) : st (inv s) = s := by
  unfold inv
  cases h : s.getLsbD 31
  · rw [if_neg (by simp)]
    unfold st
    rw [shl_shr s h]
    simp
  · rw [if_pos rfl]
    unfold st
    have h' : (s ^^^ poly).getLsbD 31 = false := by
      rw [BitVec.getLsbD_xor, h]; decide
    rw [shl_or_shr _ h']
    have hb : ((s ^^^ poly) <<< 1 ||| 1#32).getLsbD 0 = true := by simp
    rw [hb, if_pos rfl, BitVec.xor_assoc, BitVec.xor_self, BitVec.xor_zero]
theorem stN_invN (n : Nat) (s : BitVec 32) : stN n (invN n s) = s := by
  induction n generalizing s with
  | zero => rfl
  | succ n ih => rw [invN_succ]; show stN n (st (inv (invN n s))) = s; rw [st_inv, ih]

theorem st_eq_zero (s : BitVec 32) (h : st s = 0#32) : s = 0#32 := by
  unfold st at h
  have h31 : ((s >>> 1) ^^^ (if s.getLsbD 0 then poly else 0#32)).getLsbD 31 = false := by rw [h]; decide
  have hs : (s >>> 1).getLsbD 31 = false := by simp
  rw [BitVec.getLsbD_xor, hs] at h31
  cases h0 : s.getLsbD 0
  · rw [h0] at h
    simp at h
    apply BitVec.eq_of_getLsbD_eq
    intro i hi
    cases i with
    | zero => simpa using h0
    | succ i =>
      have : (s >>> 1).getLsbD i = (0#32).getLsbD i := by rw [h]
      rw [BitVec.getLsbD_ushiftRight, Nat.add_comm] at this
      simpa using this
  · rw [h0] at h31
    exact absurd h31 (by decide)
theorem stN_eq_zero (n : Nat) (s : BitVec 32) (h : stN n s = 0#32) : s = 0#32 := by
  induction n generalizing s with
  | zero => exact h
  | succ n ih => exact st_eq_zero s (ih _ h)

/- ### The table -/
def T16 : List (BitVec 32) := [0x00000000#32, 0x1DB71064#32, 0x3B6E20C8#32, 0x26D930AC#32, 0x76DC4190#32, 0x6B6B51F4#32, 0x4DB26158#32, 0x5005713C#32,
  0xEDB88320#32, 0xF00F9344#32, 0xD6D6A3E8#32, 0xCB61B38C#32, 0x9B64C2B0#32, 0x86D3D2D4#32, 0xA00AE278#32, 0xBDBDF21C#32]
def nib (x : BitVec 32) : Nat := x.toNat % 16
def tab (x : BitVec 32) : BitVec 32 := T16.getD (nib x) 0#32
theorem nib_lt (x : BitVec 32) : nib x < 16 := Nat.mod_lt _ (by decide)
theorem st_even (s : BitVec 32) (h : s.getLsbD 0 = false) : st s = s >>> 1 := by unfold st; rw [h]; simp
theorem stN4_high (s : BitVec 32) : stN 4 ((s >>> 4) <<< 4) = s >>> 4 := by
  have e1 : st ((s >>> 4) <<< 4) = ((s >>> 4) <<< 4) >>> 1 := st_even _ (by simp)
  have e2 : st (((s >>> 4) <<< 4) >>> 1) = ((s >>> 4) <<< 4) >>> 2 := by
    rw [st_even _ (by simp), ← BitVec.shiftRight_add]
  have e3 : st (((s >>> 4) <<< 4) >>> 2) = ((s >>> 4) <<< 4) >>> 3 := by
    rw [st_even _ (by simp), ← BitVec.shiftRight_add]
  have e4 : st (((s >>> 4) <<< 4) >>> 3) = ((s >>> 4) <<< 4) >>> 4 := by
    rw [st_even _ (by simp), ← BitVec.shiftRight_add]
  show st (st (st (st _))) = _
  rw [e1, e2, e3, e4]
  apply BitVec.eq_of_getLsbD_eq
  intro i hi
  simp only [BitVec.getLsbD_ushiftRight, BitVec.getLsbD_shiftLeft]
  by_cases h : 4 + i < 32
  · simp [h]
  · have : s.getLsbD (4 + i) = false := BitVec.getLsbD_of_ge _ _ (by omega)
    simp [h, this]
theorem tab_all : ∀ n : Fin 16, stN 4 (BitVec.ofNat 32 n.val) = T16.getD n.val 0#32 := by decide
theorem split4 (s : BitVec 32) : s = BitVec.ofNat 32 (nib s) ^^^ ((s >>> 4) <<< 4) := by
  have hn : BitVec.ofNat 32 (nib s) = s &&& 15#32 := by
    apply BitVec.eq_of_toNat_eq
    rw [BitVec.toNat_ofNat, BitVec.toNat_and]
    have := nib_lt s
    have e : s.toNat &&& 15 = s.toNat % 16 := Nat.and_two_pow_sub_one_eq_mod s.toNat 4
    show nib s % 2 ^ 32 = s.toNat &&& 15
    rw [e, Nat.mod_eq_of_lt (by omega)]; rfl
  rw [hn]
  apply BitVec.eq_of_getLsbD_eq
  intro i hi
  rw [BitVec.getLsbD_xor, BitVec.getLsbD_and]
  simp only [BitVec.getLsbD_ushiftRight, BitVec.getLsbD_shiftLeft]
  by_cases h : i < 4
  · have : (15#32).getLsbD i = true := by
      rcases i with _ | _ | _ | _ | i
      · decide
      · decide
      · decide
      · decide
      · omega
    simp [h, this]
  · have : (15#32).getLsbD i = false := by
      simp only [BitVec.getLsbD_ofNat]
      have : (15 : Nat).testBit i = false := Nat.testBit_lt_two_pow (Nat.lt_of_lt_of_le (by decide : 15 < 2 ^ 4) (Nat.pow_le_pow_right (by decide) (by omega)))
      rw [this]; simp
    rw [this]
    have e : 4 + (i - 4) = i := by omega
    simp [h, hi, e]
theorem four (s : BitVec 32) : tab s ^^^ (s >>> 4) = stN 4 s := by
  have h := tab_all ⟨nib s, nib_lt s⟩
  conv => rhs; rw [split4 s]
  rw [stN_xor, stN4_high]
  congr 1
  exact h.symm
def eight (s : BitVec 32) : BitVec 32 := stN 8 s
theorem eight_by (s : BitVec 32) : tab (tab s ^^^ (s >>> 4)) ^^^ ((tab s ^^^ (s >>> 4)) >>> 4) = eight s := by
  rw [four (tab s ^^^ (s >>> 4)), four s]
  exact (stN_add 4 4 s).symm
theorem eight_xor (a b : BitVec 32) : eight (a ^^^ b) = eight a ^^^ eight b := stN_xor 8 a b
theorem eight_zero : eight 0#32 = 0#32 := stN_zero 8

/- ### Bytes -/
def bv (c : UInt8) : BitVec 32 := BitVec.ofNat 32 c.toNat
def upd (s : BitVec 32) (c : UInt8) : BitVec 32 := eight (s ^^^ bv c)
def raw (s : BitVec 32) (l : List UInt8) : BitVec 32 := l.foldl upd s
def more (s : BitVec 32) (l : List UInt8) : BitVec 32 := ~~~ (raw (~~~ s) l)
theorem raw_append (s : BitVec 32) (a b : List UInt8) : raw s (a ++ b) = raw (raw s a) b := List.foldl_append
theorem more_append (s : BitVec 32) (a b : List UInt8) : more s (a ++ b) = more (more s a) b := by
  unfold more; rw [raw_append, BitVec.not_not]
theorem raw_xor (a b : BitVec 32) (l : List UInt8) : raw (a ^^^ b) l = raw a l ^^^ stN (8 * l.length) b := by
  induction l generalizing a b with
  | nil => rfl
  | cons c l ih =>
    show raw (upd (a ^^^ b) c) l = raw (upd a c) l ^^^ _
    have : upd (a ^^^ b) c = upd a c ^^^ eight b := by
      unfold upd; rw [← eight_xor]; congr 1; ac_rfl
    rw [this, ih, show 8 * (c :: l).length = 8 + 8 * l.length by simp; omega, stN_add]
    rfl

/- ### Bits: a text's, its first byte's lowest bit first -/
def bit1 (b : Bool) : BitVec 32 := if b then 1#32 else 0#32
def rawb (s : BitVec 32) (l : List Bool) : BitVec 32 := l.foldl (fun s b => st (s ^^^ bit1 b)) s
theorem rawb_append (s : BitVec 32) (a b : List Bool) : rawb s (a ++ b) = rawb (rawb s a) b := List.foldl_append
theorem bit1_xor (a b : Bool) : bit1 (a ^^ b) = bit1 a ^^^ bit1 b := by cases a <;> cases b <;> decide
theorem rawb_xor (x y : List Bool) (h : x.length = y.length) (s t : BitVec 32) : rawb (s ^^^ t) (List.zipWith (· ^^ ·) x y) = rawb s x ^^^ rawb t y := by
  induction x generalizing y s t with
  | nil => cases y with
    | nil => rfl
    | cons _ _ => simp at h
  | cons a x ih => cases y with
    | nil => simp at h
    | cons b y =>
      show rawb (st ((s ^^^ t) ^^^ bit1 (a ^^ b))) (List.zipWith (· ^^ ·) x y) = rawb (st (s ^^^ bit1 a)) x ^^^ rawb (st (t ^^^ bit1 b)) y
      rw [← ih y (by simpa using h), ← st_xor, bit1_xor]
      congr 2
      ac_rfl
theorem rawb_zeros (n : Nat) (s : BitVec 32) : rawb s (List.replicate n false) = stN n s := by
  induction n generalizing s with
  | zero => rfl
  | succ n ih =>
    show rawb (st (s ^^^ 0#32)) (List.replicate n false) = stN n (st s)
    rw [ih, BitVec.xor_zero]
def lowbits (k : Nat) (x : BitVec 32) : List Bool := (List.range k).map x.getLsbD
theorem lowbits_succ (k : Nat) (x : BitVec 32) : lowbits (k + 1) x = x.getLsbD 0 :: lowbits k (x >>> 1) := by
  unfold lowbits
  rw [List.range_succ_eq_map, List.map_cons, List.map_map]
  congr 1
  apply List.map_congr_left
  intro i _
  simp [BitVec.getLsbD_ushiftRight, Nat.add_comm]
theorem st_shl (y : BitVec 32) (h : y.getLsbD 31 = false) : st (y <<< 1) = y := by
  rw [st_even _ (by simp), shl_shr y h]
theorem split1 (x : BitVec 32) : x = bit1 (x.getLsbD 0) ^^^ ((x >>> 1) <<< 1) := by
  apply BitVec.eq_of_getLsbD_eq
  intro i hi
  rw [BitVec.getLsbD_xor, BitVec.getLsbD_shiftLeft, BitVec.getLsbD_ushiftRight]
  cases i with
  | zero => cases h : x.getLsbD 0 <;> simp [bit1]
  | succ i =>
    have hb : (bit1 (x.getLsbD 0)).getLsbD (i + 1) = false := by
      cases x.getLsbD 0 <;> simp [bit1]
    rw [hb, show 1 + (i + 1 - 1) = i + 1 by omega]
    simp [hi]
theorem rawb_low (k : Nat) (x s : BitVec 32) (h : x >>> k = 0#32) : rawb s (lowbits k x) = stN k (s ^^^ x) := by
  induction k generalizing x s with
  | zero => simp at h; subst h; simp [lowbits, rawb, stN]
  | succ k ih =>
    rw [lowbits_succ]
    show rawb (st (s ^^^ bit1 (x.getLsbD 0))) (lowbits k (x >>> 1)) = stN k (st (s ^^^ x))
    rw [ih _ _ (by rw [← BitVec.shiftRight_add, Nat.add_comm]; exact h)]
    congr 1
    have hs : st ((x >>> 1) <<< 1) = x >>> 1 := st_shl _ (by simp)
    conv => rhs; rw [split1 x]
    rw [← BitVec.xor_assoc, st_xor (s ^^^ bit1 (x.getLsbD 0)), hs]
def bits8 (c : UInt8) : List Bool := (List.range 8).map c.toNat.testBit
theorem bits8_low (c : UInt8) : bits8 c = lowbits 8 (bv c) := by
  unfold bits8 lowbits bv
  apply List.map_congr_left
  intro i hi
  have hi' : i < 8 := by simpa using hi
  have hc : c.toNat < 256 := c.toNat_lt
  rw [BitVec.getLsbD_ofNat]
  simp [show i < 32 by omega]
theorem bv_shr (c : UInt8) : bv c >>> 8 = 0#32 := by
  apply BitVec.eq_of_toNat_eq
  have hc : c.toNat < 256 := c.toNat_lt
  simp [bv, BitVec.toNat_ushiftRight]
  rw [Nat.shiftRight_eq_div_pow]; omega
theorem upd_bits (s : BitVec 32) (c : UInt8) : upd s c = rawb s (bits8 c) := by
  rw [bits8_low, rawb_low 8 _ _ (bv_shr c)]; rfl
def flat (l : List UInt8) : List Bool := l.flatMap bits8
theorem raw_bits (s : BitVec 32) (l : List UInt8) : raw s l = rawb s (flat l) := by
  induction l generalizing s with
  | nil => rfl
  | cons c l ih =>
    show raw (upd s c) l = rawb s (bits8 c ++ flat l)
    rw [rawb_append, ih, upd_bits]
theorem flat_length (l : List UInt8) : (flat l).length = 8 * l.length := by
  induction l with
  | nil => rfl
  | cons c l ih =>
    show (bits8 c ++ flat l).length = _
    rw [List.length_append, ih]; simp [bits8]; omega
theorem flat_get (l : List UInt8) (k : Nat) : (flat l)[k]? = (l[k / 8]?).map (fun c => c.toNat.testBit (k % 8)) := by
  induction l generalizing k with
  | nil => simp [flat]
  | cons c l ih =>
    show (bits8 c ++ flat l)[k]? = _
    have h8 : (bits8 c).length = 8 := by simp [bits8]
    by_cases hk : k < 8
    · rw [List.getElem?_append_left (by omega)]
      have e1 : k / 8 = 0 := by omega
      have e2 : k % 8 = k := by omega
      rw [e1, e2]
      simp [bits8, hk]
    · rw [List.getElem?_append_right (by omega), ih, h8]
      have e1 : k / 8 = (k - 8) / 8 + 1 := by omega
      have e2 : (k - 8) % 8 = k % 8 := by omega
      rw [e1, e2]; rfl
/-- Four bytes, the lowest first. -/
def leb32 (y : BitVec 32) : List UInt8 := [UInt8.ofNat y.toNat, UInt8.ofNat (y >>> 8).toNat, UInt8.ofNat (y >>> 16).toNat, UInt8.ofNat (y >>> 24).toNat]
theorem flat_leb32 (y : BitVec 32) : flat (leb32 y) = lowbits 32 y := by
  apply List.ext_getElem?
  intro k
  rw [flat_get]
  by_cases hk : k < 32
  · have hr : (lowbits 32 y)[k]? = some (y.getLsbD k) := by simp [lowbits, hk]
    rw [hr]
    have key : ∀ z : BitVec 32, (UInt8.ofNat z.toNat).toNat.testBit (k % 8) = z.getLsbD (k % 8) := by
      intro z
      rw [UInt8.toNat_ofNat', BitVec.getLsbD]
      rw [Nat.testBit_mod_two_pow]
      simp [show k % 8 < 8 by omega]
    have hq : k / 8 = 0 ∨ k / 8 = 1 ∨ k / 8 = 2 ∨ k / 8 = 3 := by omega
    rcases hq with hq | hq | hq | hq
    · rw [hq]; simp only [leb32, List.getElem?_cons_zero, Option.map_some, key]
      congr 2; omega
    · rw [hq]; simp only [leb32, List.getElem?_cons_succ, List.getElem?_cons_zero, Option.map_some, key, BitVec.getLsbD_ushiftRight]
      congr 2; omega
    · rw [hq]; simp only [leb32, List.getElem?_cons_succ, List.getElem?_cons_zero, Option.map_some, key, BitVec.getLsbD_ushiftRight]
      congr 2; omega
    · rw [hq]; simp only [leb32, List.getElem?_cons_succ, List.getElem?_cons_zero, Option.map_some, key, BitVec.getLsbD_ushiftRight]
      congr 2; omega
  · have h1 : (lowbits 32 y)[k]? = none := by simp [lowbits]; omega
    have h2 : (leb32 y)[k / 8]? = none := by simp [leb32]; omega
    rw [h1, h2]; rfl
theorem shr32 (y : BitVec 32) : y >>> 32 = 0#32 := by
  apply BitVec.eq_of_getLsbD_eq
  intro i hi
  rw [BitVec.getLsbD_ushiftRight, BitVec.getLsbD_of_ge _ _ (by omega)]; simp
theorem raw_leb32 (x y : BitVec 32) : raw x (leb32 y) = stN 32 (x ^^^ y) := by
  rw [raw_bits, flat_leb32, rawb_low 32 _ _ (shr32 y)]
/-- The four bytes that turn a text's sum into another. -/
def fixv (sum want : BitVec 32) : BitVec 32 := invN 32 (~~~ want) ^^^ ~~~ sum
theorem fix_works (l : List UInt8) (want : BitVec 32) : more 0#32 (l ++ leb32 (fixv (more 0#32 l) want)) = want := by
  rw [more_append]
  generalize more 0#32 l = s
  unfold more
  rw [raw_leb32]
  unfold fixv
  rw [show ~~~ s ^^^ (invN 32 (~~~ want) ^^^ ~~~ s) = invN 32 (~~~ want) ^^^ (~~~ s ^^^ ~~~ s) by ac_rfl, BitVec.xor_self, BitVec.xor_zero, stN_invN, BitVec.not_not]

theorem fix_lo {x : BitVec 32} (h : x.getLsbD 31 = false) : inv x = x <<< 1 := by unfold inv; rw [h]; rfl
theorem fix_hi {x : BitVec 32} (h : x.getLsbD 31 = true) : inv x = ((x ^^^ poly) <<< 1) ||| 1#32 := by unfold inv; rw [h]; rfl
/-- Eight bytes of a number, the lowest first. -/
def leb64 (u : Nat) : List UInt8 := (List.range 8).map fun i => UInt8.ofNat (u / 256 ^ i)
/-- The sum of a text and of numbers behind it. -/
def markS (s : BitVec 32) (ws : List Int) : BitVec 32 := ws.foldl (fun s n => more s (leb64 (n % 18446744073709551616).toNat)) s
/- ### Bursts -/
/-- A text whose bit k is turned. -/
def flip (l : List UInt8) (k : Nat) : List UInt8 := l.set (k / 8) ((l.getD (k / 8) 0) ^^^ UInt8.ofNat (2 ^ (k % 8)))
theorem flip_length (l : List UInt8) (k : Nat) : (flip l k).length = l.length := by simp [flip]
theorem bit_flip (c : UInt8) (r j : Nat) (hr : r < 8) (_hj : j < 8) : (c ^^^ UInt8.ofNat (2 ^ r)).toNat.testBit j = (c.toNat.testBit j ^^ decide (j = r)) := by
  have h2 : 2 ^ r < 256 := Nat.lt_of_lt_of_le (Nat.pow_lt_pow_right (by decide) hr) (by decide)
  rw [UInt8.toNat_xor, Nat.testBit_xor, UInt8.toNat_ofNat', Nat.mod_eq_of_lt h2, Nat.testBit_two_pow]
  congr 1
  simp [eq_comm]
theorem flat_flip (l : List UInt8) (k j : Nat) (h : k / 8 < l.length) : (flat (flip l k))[j]? = ((flat l)[j]?).map (fun b => b ^^ decide (j = k)) := by
  rw [flat_get, flat_get]
  unfold flip
  rw [List.getElem?_set]
  by_cases hq : k / 8 = j / 8
  · rw [if_pos hq, if_pos h, ← hq]
    have hl : l[k / 8]? = some (l.getD (k / 8) 0) := by simp [List.getD, h]
    rw [hl]
    simp only [Option.map_some]
    rw [bit_flip _ _ _ (by omega) (by omega)]
    congr 2
    simp; omega
  · rw [if_neg hq, Option.map_map]
    congr 1
    funext c
    have : j ≠ k := by rintro rfl; exact hq rfl
    simp [this]
/-- Bits from 'at' on turned, those that 'turn' names, the first i of them. -/
def burst (l : List UInt8) (at_ : Nat) (turn : BitVec 32) : Nat → List UInt8
  | 0 => l
  | i + 1 => if turn.getLsbD i then flip (burst l at_ turn i) (at_ + i) else burst l at_ turn i
theorem burst_length (l : List UInt8) (at_ : Nat) (turn : BitVec 32) (i : Nat) : (burst l at_ turn i).length = l.length := by
  induction i with
  | zero => rfl
  | succ i ih =>
    unfold burst
    split
    · rw [flip_length, ih]
    · exact ih
theorem flat_burst (l : List UInt8) (at_ : Nat) (turn : BitVec 32) (i j : Nat) (h : at_ + i ≤ 8 * l.length) :
    (flat (burst l at_ turn i))[j]? = ((flat l)[j]?).map (fun b => b ^^ (decide (at_ ≤ j) && decide (j < at_ + i) && turn.getLsbD (j - at_))) := by
  induction i with
  | zero =>
    have : ∀ b : Bool, (b ^^ (decide (at_ ≤ j) && decide (j < at_ + 0) && turn.getLsbD (j - at_))) = b := by
      intro b
      by_cases h1 : at_ ≤ j
      · have : ¬ j < at_ := by omega
        simp [this]
      · simp [h1]
    show (flat l)[j]? = _
    simp only [this]
    simp
  | succ i ih =>
    have ih' := ih (by omega)
    unfold burst
    by_cases ht : turn.getLsbD i = true
    · rw [if_pos ht, flat_flip _ _ _ (by rw [burst_length]; omega), ih', Option.map_map]
      congr 1
      funext b
      simp only [Function.comp]
      rw [Bool.xor_assoc]
      congr 1
      by_cases hj : j = at_ + i
      · subst hj
        simp [ht]
      · by_cases h1 : at_ ≤ j <;> by_cases h2 : j < at_ + i
        · have : j < at_ + (i + 1) := by omega
          simp [h1, h2, hj, this]
        · have : ¬ j < at_ + (i + 1) := by omega
          simp [h2, hj, this]
        · simp [h1, hj]
        · simp [h1, hj]
    · rw [if_neg ht, ih']
      congr 1
      funext b
      congr 1
      by_cases hj : j = at_ + i
      · subst hj
        simp at ht
        simp [ht]
      · by_cases h1 : at_ ≤ j <;> by_cases h2 : j < at_ + i
        · have : j < at_ + (i + 1) := by omega
          simp [h2, this]
        · have : ¬ j < at_ + (i + 1) := by omega
          simp [h2, this]
        · simp [h1]
        · simp [h1]
theorem burst_ne (l : List UInt8) (at_ : Nat) (turn : BitVec 32) (h : at_ + 32 ≤ 8 * l.length) (ht : turn ≠ 0#32) : more 0#32 (burst l at_ turn 32) ≠ more 0#32 l := by
  intro he
  have hraw : raw (~~~ 0#32) (burst l at_ turn 32) = raw (~~~ 0#32) l := by
    have := congrArg (fun x => ~~~ x) he
    simpa [more] using this
  rw [raw_bits, raw_bits] at hraw
  have hlen : (flat l).length = 8 * l.length := flat_length l
  have hz : flat (burst l at_ turn 32) = List.zipWith (· ^^ ·) (flat l) (List.replicate at_ false ++ lowbits 32 turn ++ List.replicate (8 * l.length - at_ - 32) false) := by
    apply List.ext_getElem?
    intro j
    rw [flat_burst l at_ turn 32 j h, List.getElem?_zipWith]
    by_cases hj : j < 8 * l.length
    · have h1 : (flat l)[j]? = some ((flat l)[j]'(by omega)) := List.getElem?_eq_getElem (by omega)
      have h2 : (List.replicate at_ false ++ lowbits 32 turn ++ List.replicate (8 * l.length - at_ - 32) false)[j]? = some (decide (at_ ≤ j) && decide (j < at_ + 32) && turn.getLsbD (j - at_)) := by
        by_cases ha : j < at_
        · rw [List.getElem?_append_left (by simp; omega), List.getElem?_append_left (by simpa using ha)]
          simp [show ¬ at_ ≤ j by omega, ha]
        · by_cases hb : j < at_ + 32
          · rw [List.getElem?_append_left (by simp [lowbits]; omega), List.getElem?_append_right (by simp; omega)]
            simp only [lowbits, List.length_replicate, List.getElem?_map]
            rw [List.getElem?_range (by omega)]
            have : at_ ≤ j := by omega
            simp [hb, this]
          · rw [List.getElem?_append_right (by simp [lowbits]; omega)]
            rw [List.getElem?_replicate_of_lt (by simp [lowbits]; omega)]
            simp [hb]
      rw [h1, h2]; rfl
    · have h1 : (flat l)[j]? = none := by rw [List.getElem?_eq_none]; omega
      rw [h1]; rfl
  rw [hz, show ~~~ 0#32 = ~~~ 0#32 ^^^ 0#32 by decide] at hraw
  rw [rawb_xor _ _ (by simp [flat_length, lowbits]; omega)] at hraw
  have h0 : rawb 0#32 (List.replicate at_ false ++ lowbits 32 turn ++ List.replicate (8 * l.length - at_ - 32) false) = 0#32 := by
    have hx := congrArg (fun x => rawb (~~~ 0#32) (flat l) ^^^ x) hraw
    simp only [BitVec.xor_zero] at hx
    rw [← BitVec.xor_assoc, BitVec.xor_self, BitVec.zero_xor] at hx
    exact hx
  rw [rawb_append, rawb_append, rawb_zeros, rawb_zeros, stN_zero, rawb_low 32 _ _ (shr32 turn), BitVec.zero_xor] at h0
  exact ht (stN_eq_zero _ _ (stN_eq_zero _ _ h0))

/- ### Matrices -/
def mat (f : BitVec 32 → BitVec 32) (i : Nat) : BitVec 32 := f (1#32 <<< i)
def timesTo (m : Nat → BitVec 32) (n : BitVec 32) : Nat → BitVec 32
  | 0 => 0#32
  | k + 1 => if n.getLsbD k then timesTo m n k ^^^ m k else timesTo m n k
def lo (k : Nat) (n : BitVec 32) : BitVec 32 := BitVec.ofNat 32 (n.toNat % 2 ^ k)
theorem lo_bit (k : Nat) (n : BitVec 32) (i : Nat) (hi : i < 32) : (lo k n).getLsbD i = (decide (i < k) && n.getLsbD i) := by
  unfold lo
  rw [BitVec.getLsbD_ofNat, Nat.testBit_mod_two_pow]
  simp [hi, BitVec.getLsbD]
theorem lo_succ (k : Nat) (n : BitVec 32) (hk : k < 32) : lo (k + 1) n = if n.getLsbD k then lo k n ^^^ (1#32 <<< k) else lo k n := by
  apply BitVec.eq_of_getLsbD_eq
  intro i hi
  rw [lo_bit _ _ _ hi]
  by_cases hik : i = k
  · subst hik
    cases h : n.getLsbD i
    · simp [lo_bit _ _ _ hi]
    · rw [if_pos rfl, BitVec.getLsbD_xor, lo_bit _ _ _ hi, BitVec.getLsbD_shiftLeft]
      simp [hi]
  · have hone : (1#32 <<< k).getLsbD i = false := by
      rw [BitVec.getLsbD_shiftLeft]
      by_cases h : i < k
      · simp [h]
      · have : i - k ≠ 0 := by omega
        simp [h, this]
    split
    · rw [BitVec.getLsbD_xor, lo_bit _ _ _ hi, hone]
      by_cases h : i < k
      · have : i < k + 1 := by omega
        simp [h, this]
      · have : ¬ i < k + 1 := by omega
        simp [h, this]
    · rw [lo_bit _ _ _ hi]
      by_cases h : i < k
      · have : i < k + 1 := by omega
        simp [h, this]
      · have : ¬ i < k + 1 := by omega
        simp [h, this]
theorem times_mat (f : BitVec 32 → BitVec 32) (hf : ∀ a b, f (a ^^^ b) = f a ^^^ f b) (n : BitVec 32) (k : Nat) (hk : k ≤ 32) : timesTo (mat f) n k = f (lo k n) := by
  have h0 : f 0#32 = 0#32 := by
    have := hf 0#32 0#32
    rw [BitVec.xor_self, BitVec.xor_self] at this
    exact this
  induction k with
  | zero => simp [timesTo, lo, h0, Nat.mod_one]
  | succ k ih =>
    unfold timesTo
    rw [ih (by omega), lo_succ k n (by omega)]
    split
    · rw [hf]; rfl
    · rfl
theorem lo32 (n : BitVec 32) : lo 32 n = n := by
  unfold lo
  apply BitVec.eq_of_toNat_eq
  have := n.isLt
  simp
  omega
theorem times_all (f : BitVec 32 → BitVec 32) (hf : ∀ a b, f (a ^^^ b) = f a ^^^ f b) (n : BitVec 32) : timesTo (mat f) n 32 = f n := by
  rw [times_mat f hf n 32 (Nat.le_refl _), lo32]
/-- What so many noughts behind make of a sum. -/
def far (n : Nat) (s : BitVec 32) : BitVec 32 := stN (8 * n) s
theorem far_xor (n : Nat) (a b : BitVec 32) : far n (a ^^^ b) = far n a ^^^ far n b := stN_xor _ a b
theorem far_add (a b : Nat) (s : BitVec 32) : far (a + b) s = far b (far a s) := by unfold far; rw [Nat.mul_add, stN_add]
theorem far_one (s : BitVec 32) : far 1 s = eight s := rfl
theorem far_zero (s : BitVec 32) : far 0 s = s := rfl
theorem join_parts (a b : List UInt8) : far b.length (more 0#32 a) ^^^ more 0#32 b = more 0#32 (a ++ b) := by
  rw [more_append]
  generalize more 0#32 a = s
  unfold more
  have h : ~~~ s = ~~~ 0#32 ^^^ s := by
    apply BitVec.eq_of_getLsbD_eq
    intro i hi
    rw [BitVec.getLsbD_xor, BitVec.getLsbD_not, BitVec.getLsbD_not]
    simp [hi]
  rw [h, raw_xor]
  unfold far
  apply BitVec.eq_of_getLsbD_eq
  intro i hi
  simp only [BitVec.getLsbD_xor, BitVec.getLsbD_not]
  cases (stN (8 * b.length) s).getLsbD i <;> cases (raw (~~~ 0#32) b).getLsbD i <;> simp [hi]
end Go.Proofs.YtpojlchikaffhaaDoor.SumP
namespace Go.Proofs.YtpojlchikaffhaaDoor
open Go.RowKit
theorem wpList_abs {P : Program} {ops : Array Oper} {Q : Exit → Act → World → Prop} {l : List Oper} {a : Act} {w : World} (S : World → Prop) (hS : S w) (h : ∀ w', S w' → wpList P ops Q l a w') : wpList P ops Q l a w := h w hS
end Go.Proofs.YtpojlchikaffhaaDoor
namespace Go.Proofs.YtpojlchikaffhaaDoor.DiskP

/-- What stands in a sector: its bytes (none: it is torn), and whether a bit of it was turned. -/
structure Sect where
  bytes : Option (List UInt8)
  rot : Bool
def zeroS (size : Nat) : Sect := ⟨some (List.replicate size 0), false⟩
def tornS : Sect := ⟨none, false⟩
structure Dsk where
  size : Nat
  last : List Sect
  wait : List (Nat × Sect)
  off : Bool

section
variable {α β : Type}
/-- The last write of a sector among those that wait. -/
def lastIdx : List (Nat × α) → Nat → Option Nat
  | [], _ => none
  | x :: ws, n => match lastIdx ws n with
    | some i => some (i + 1)
    | none => if x.1 = n then some 0 else none
def lastW : List (Nat × α) → Nat → Option α
  | [], _ => none
  | x :: ws, n => match lastW ws n with
    | some y => some y
    | none => if x.1 = n then some x.2 else none
/-- Writes last, in order. -/
def applyW (l : List α) (ws : List (Nat × α)) : List α := ws.foldl (fun l x => l.set x.1 x.2) l
theorem applyW_length (l : List α) (ws : List (Nat × α)) : (applyW l ws).length = l.length := by
  induction ws generalizing l with
  | nil => rfl
  | cons x ws ih => show (applyW (l.set x.1 x.2) ws).length = _; rw [ih]; simp
theorem applyW_append (l : List α) (a b : List (Nat × α)) : applyW l (a ++ b) = applyW (applyW l a) b := List.foldl_append
theorem applyW_get (l : List α) (ws : List (Nat × α)) (i : Nat) (hi : i < l.length) : (applyW l ws)[i]? = some ((lastW ws i).getD l[i]) := by
  induction ws generalizing l with
  | nil => simp [applyW, lastW, hi]
  | cons x ws ih =>
    show (applyW (l.set x.1 x.2) ws)[i]? = _
    rw [ih _ (by simpa using hi)]
    congr 1
    rw [lastW]
    cases h : lastW ws i with
    | some y => rfl
    | none =>
      simp only [Option.getD_none]
      rw [List.getElem_set]
      split <;> simp_all
theorem lastW_snoc (ws : List (Nat × α)) (x : Nat × α) (n : Nat) : lastW (ws ++ [x]) n = if x.1 = n then some x.2 else lastW ws n := by
  induction ws with
  | nil => simp [lastW]
  | cons y ws ih =>
    show lastW (y :: (ws ++ [x])) n = _
    rw [lastW, ih]
    by_cases h : x.1 = n
    · simp [h]
    · simp [h, lastW]
theorem lastIdx_snoc (ws : List (Nat × α)) (x : Nat × α) (n : Nat) : lastIdx (ws ++ [x]) n = if x.1 = n then some ws.length else lastIdx ws n := by
  induction ws with
  | nil => simp [lastIdx]
  | cons y ws ih =>
    show lastIdx (y :: (ws ++ [x])) n = _
    rw [lastIdx, ih]
    by_cases h : x.1 = n
    · simp [h]
    · simp [h, lastIdx]
theorem lastW_idx (ws : List (Nat × α)) (n : Nat) : lastW ws n = (lastIdx ws n).bind fun i => (ws[i]?).map (·.2) := by
  induction ws with
  | nil => rfl
  | cons x ws ih =>
    rw [lastW, lastIdx, ih]
    cases h : lastIdx ws n with
    | some i =>
      simp only [Option.bind_some]
      cases h2 : ws[i]? with
      | some y => simp [h2]
      | none =>
        -- an index that lastIdx tells is there
        exfalso
        have : ∀ (l : List (Nat × α)) i, lastIdx l n = some i → i < l.length := by
          intro l
          induction l with
          | nil => intro i hi; cases hi
          | cons y l ihl =>
            intro i hi
            rw [lastIdx] at hi
            cases hl : lastIdx l n with
            | some k => rw [hl] at hi; injection hi with hi; have := ihl k hl; simp; omega
            | none =>
              rw [hl] at hi
              simp only at hi
              split at hi
              · injection hi with hi; simp; omega
              · cases hi
        have hlt := this ws i h
        rw [List.getElem?_eq_getElem hlt] at h2
        cases h2
    | none =>
      simp only [Option.bind_none]
      by_cases hx : x.1 = n
      · simp [hx]
      · simp [hx]
theorem lastIdx_lt {ws : List (Nat × α)} {n i : Nat} (h : lastIdx ws n = some i) : ∃ y, ws[i]? = some (n, y) := by
  induction ws generalizing i with
  | nil => cases h
  | cons x ws ih =>
    rw [lastIdx] at h
    cases hl : lastIdx ws n with
    | some k =>
      rw [hl] at h
      injection h with h
      subst h
      obtain ⟨y, hy⟩ := ih hl
      exact ⟨y, by simpa using hy⟩
    | none =>
      rw [hl] at h
      simp only at h
      split at h
      · rename_i hx
        injection h with h
        subst h
        exact ⟨x.2, by simp [← hx]⟩
      · cases h
theorem lastW_map (f : α → β) (ws : List (Nat × α)) (n : Nat) : lastW (ws.map fun x => (x.1, f x.2)) n = (lastW ws n).map f := by
  induction ws with
  | nil => rfl
  | cons x ws ih =>
    show lastW ((x.1, f x.2) :: ws.map fun x => (x.1, f x.2)) n = _
    rw [lastW, ih, lastW]
    cases lastW ws n with
    | some y => rfl
    | none => simp only [Option.map_none]; split <;> rfl
theorem lastIdx_map (f : α → β) (ws : List (Nat × α)) (n : Nat) : lastIdx (ws.map fun x => (x.1, f x.2)) n = lastIdx ws n := by
  induction ws with
  | nil => rfl
  | cons x ws ih =>
    show lastIdx ((x.1, f x.2) :: ws.map fun x => (x.1, f x.2)) n = _
    rw [lastIdx, ih, lastIdx]
theorem applyW_map (f : α → β) (l : List α) (ws : List (Nat × α)) : applyW (l.map f) (ws.map fun x => (x.1, f x.2)) = (applyW l ws).map f := by
  induction ws generalizing l with
  | nil => rfl
  | cons x ws ih =>
    show applyW ((l.map f).set x.1 (f x.2)) (ws.map fun x => (x.1, f x.2)) = _
    rw [← List.map_set, ih]; rfl
/-- What is told of a sector. -/
def toldW (l : List α) (ws : List (Nat × α)) : List α := applyW l ws
theorem toldW_snoc (l : List α) (ws : List (Nat × α)) (x : Nat × α) : applyW l (ws ++ [x]) = (applyW l ws).set x.1 x.2 := by rw [applyW_append]; rfl
end

def newD (n size : Nat) : Dsk := ⟨size, List.replicate n (zeroS size), [], false⟩
def Dsk.told (d : Dsk) : List Sect := applyW d.last d.wait
def Dsk.write (d : Dsk) (n : Nat) (l : List UInt8) : Dsk := { d with wait := d.wait ++ [(n, ⟨some l, false⟩)] }
def Dsk.flush (d : Dsk) : Dsk := { d with last := applyW d.last d.wait, wait := [] }
/-- Of writes those that last when the power fails. -/
def keepW {α : Type} (keep : List Bool) (torn : Int) (z : α) : Nat → List (Nat × α) → List (Nat × α)
  | _, [] => []
  | i, x :: ws => if (i : Int) = torn then (x.1, z) :: keepW keep torn z (i + 1) ws else if keep.getD i false then x :: keepW keep torn z (i + 1) ws else keepW keep torn z (i + 1) ws
def Dsk.cut (d : Dsk) (keep : List Bool) (torn : Int) : Dsk := if d.off then d else { d with last := applyW d.last (keepW keep torn tornS 0 d.wait), wait := [], off := true }
def Dsk.on (d : Dsk) : Dsk := { d with off := false }
/-- Bytes with a bit turned. -/
def turnBit (l : List UInt8) (bit : Nat) : List UInt8 := l.set (bit / 8) ((l.getD (bit / 8) 0) ^^^ UInt8.ofNat (2 ^ (bit % 8)))
def Sect.turn (s : Sect) (bit : Nat) : Sect := ⟨s.bytes.map (turnBit · bit), true⟩
def Dsk.rotted (d : Dsk) (n bit : Nat) : Dsk :=
  match lastIdx d.wait n with
  | some i => { d with wait := d.wait.modify i fun x => (x.1, x.2.turn bit) }
  | none => { d with last := d.last.modify n (Sect.turn · bit) }
/-- What a call tells: 0 is all right. -/
def Dsk.has (d : Dsk) (n : Int) : Bool := decide (0 ≤ n) && decide (n < d.last.length)
def Dsk.readE (d : Dsk) (n : Int) : Int :=
  if d.has n = false then 1 else if d.off then 10 else match d.told[n.toNat]? with
    | some s => if s.bytes.isNone then 9 else 0
    | none => 1
def Dsk.readB (d : Dsk) (n : Nat) : List UInt8 := ((d.told[n]?).bind (·.bytes)).getD []
def Dsk.readL (d : Dsk) (n : Int) : List UInt8 := if d.readE n = 0 then d.readB n.toNat else []
def Dsk.writeE (d : Dsk) (n : Int) (l : List UInt8) : Int := if d.has n = false then 1 else if l.length ≠ d.size then 1 else if d.off then 10 else 0
def Dsk.rotE (d : Dsk) (n bit : Int) : Int :=
  if d.has n = false then 1 else if bit < 0 then 1 else if 8 * (d.size : Int) ≤ bit then 1 else if d.off then 10 else match d.told[n.toNat]? with
    | some s => if s.bytes.isNone then 9 else if s.rot then 11 else 0
    | none => 1

/- ### Cut -/
section
variable {α β : Type}
/-- What becomes of one write when the power fails. -/
def keep1 (keep : List Bool) (torn : Int) (z : α) (i : Nat) (x : Nat × α) : List (Nat × α) := if (i : Int) = torn then [(x.1, z)] else if keep.getD i false then [x] else []
theorem keepW_cons (keep : List Bool) (torn : Int) (z : α) (i : Nat) (x : Nat × α) (ws : List (Nat × α)) : keepW keep torn z i (x :: ws) = keep1 keep torn z i x ++ keepW keep torn z (i + 1) ws := by
  rw [keepW]
  unfold keep1
  split
  · rfl
  · split <;> rfl
theorem keepW_snoc (keep : List Bool) (torn : Int) (z : α) (i : Nat) (ws : List (Nat × α)) (x : Nat × α) : keepW keep torn z i (ws ++ [x]) = keepW keep torn z i ws ++ keep1 keep torn z (i + ws.length) x := by
  induction ws generalizing i with
  | nil =>
    show keepW keep torn z i [x] = _
    rw [keepW_cons]
    simp [keepW]
  | cons y ws ih =>
    show keepW keep torn z i (y :: (ws ++ [x])) = _
    rw [keepW_cons, keepW_cons, ih, List.append_assoc, show i + 1 + ws.length = i + (y :: ws).length by simp; omega]
theorem keepW_map (f : α → β) (keep : List Bool) (torn : Int) (z : α) (i : Nat) (ws : List (Nat × α)) : keepW keep torn (f z) i (ws.map fun x => (x.1, f x.2)) = (keepW keep torn z i ws).map fun x => (x.1, f x.2) := by
  induction ws generalizing i with
  | nil => rfl
  | cons x ws ih =>
    show keepW keep torn (f z) i ((x.1, f x.2) :: ws.map fun x => (x.1, f x.2)) = _
    rw [keepW_cons, keepW_cons, ih, List.map_append]
    congr 1
    unfold keep1
    split
    · rfl
    · split <;> rfl
/-- A torn write behind all is no matter. -/
theorem keepW_z (keep : List Bool) (torn : Int) (z z' : α) (i : Nat) (ws : List (Nat × α)) (h : ((i + ws.length : Nat) : Int) ≤ torn) : keepW keep torn z i ws = keepW keep torn z' i ws := by
  induction ws generalizing i with
  | nil => rfl
  | cons x ws ih =>
    rw [keepW_cons, keepW_cons, ih (i + 1) (by simp at h ⊢; omega)]
    congr 1
    unfold keep1
    have : ¬ (i : Int) = torn := by simp at h; omega
    rw [if_neg this, if_neg this]
theorem keepW_mem {keep : List Bool} {torn : Int} {z : α} {i : Nat} {ws : List (Nat × α)} {x : Nat × α} (h : x ∈ keepW keep torn z i ws) : (x ∈ ws) ∨ (x.2 = z ∧ ∃ m : Nat, ((i + m : Nat) : Int) = torn ∧ ∃ a, ws[m]? = some (x.1, a)) := by
  induction ws generalizing i with
  | nil => cases h
  | cons y ws ih =>
    rw [keepW_cons] at h
    rcases List.mem_append.1 h with h | h
    · unfold keep1 at h
      split at h
      · rename_i ht
        simp at h; subst h; exact .inr ⟨rfl, 0, by simpa using ht, y.2, rfl⟩
      · split at h
        · simp at h; subst h; exact .inl (by simp)
        · cases h
    · rcases ih h with h | ⟨h1, m, hm, a, ha⟩
      · exact .inl (by simp [h])
      · exact .inr ⟨h1, m + 1, by omega, a, by simpa using ha⟩
theorem keepW_sect {keep : List Bool} {torn : Int} {z : α} {i : Nat} {ws : List (Nat × α)} {x : Nat × α} (h : x ∈ keepW keep torn z i ws) : ∃ y ∈ ws, y.1 = x.1 := by
  rcases keepW_mem h with h | ⟨_, m, _, a, ha⟩
  · exact ⟨x, h, rfl⟩
  · exact ⟨_, List.mem_of_getElem? ha, rfl⟩
theorem lastW_none {ws : List (Nat × α)} {n : Nat} (h : ∀ x ∈ ws, x.1 ≠ n) : lastW ws n = none := by
  induction ws with
  | nil => rfl
  | cons x ws ih =>
    rw [lastW, ih (fun y hy => h y (by simp [hy]))]
    simp [h x (by simp)]
theorem lastW_mem {ws : List (Nat × α)} {n : Nat} {a : α} (h : lastW ws n = some a) : (n, a) ∈ ws := by
  induction ws with
  | nil => cases h
  | cons x ws ih =>
    rw [lastW] at h
    cases hl : lastW ws n with
    | some b => rw [hl] at h; simp only at h; injection h with h; subst h; simp [ih hl]
    | none =>
      rw [hl] at h
      simp only at h
      split at h
      · rename_i hx
        injection h with h
        subst h hx
        simp
      · cases h
/-- Told anew: what waited is told as it lasts. -/
theorem retold (l l' : List α) (ws ks : List (Nat × α)) (hl : l' = applyW l ks) (hk : ∀ x ∈ ks, ∃ y ∈ ws, y.1 = x.1) (d : α) :
    applyW (applyW l ws) (ws.map fun x => (x.1, l'.getD x.1 d)) = l' := by
  have hlen : l'.length = l.length := by rw [hl, applyW_length]
  apply List.ext_getElem?
  intro i
  by_cases hi : i < l.length
  · rw [applyW_get _ _ i (by rw [applyW_length]; exact hi)]
    by_cases hex : ∃ y ∈ ws, y.1 = i
    · have : ∃ a, lastW (ws.map fun x => (x.1, l'.getD x.1 d)) i = some a := by
        cases h0 : lastW (ws.map fun x => (x.1, l'.getD x.1 d)) i with
        | some a => exact ⟨a, rfl⟩
        | none =>
          exfalso
          obtain ⟨y, hy, hyi⟩ := hex
          have key : ∀ (m : List (Nat × α)), (∃ z ∈ m, z.1 = i) → lastW m i ≠ none := by
            intro m
            induction m with
            | nil => rintro ⟨_, h, _⟩; cases h
            | cons u m ih =>
              rintro ⟨z, hz, hzi⟩
              rw [lastW]
              cases hm : lastW m i with
              | some b => simp
              | none =>
                rcases List.mem_cons.1 hz with rfl | hz
                · simp [hzi]
                · exact absurd hm (ih ⟨z, hz, hzi⟩)
          exact key _ ⟨(y.1, l'.getD y.1 d), List.mem_map.2 ⟨y, hy, rfl⟩, hyi⟩ h0
      obtain ⟨a, ha⟩ := this
      rw [ha]
      have hm := lastW_mem ha
      simp only [List.mem_map] at hm
      obtain ⟨x, _, hx⟩ := hm
      injection hx with h1 h2
      rw [List.getElem?_eq_getElem (by omega), ← h2, h1]
      simp [List.getD, show i < l'.length by omega]
    · have h1 : ∀ x ∈ ws, x.1 ≠ i := fun x hx e => hex ⟨x, hx, e⟩
      have h2 : ∀ x ∈ (ws.map fun x => (x.1, l'.getD x.1 d)), x.1 ≠ i := by
        intro x hx e
        simp only [List.mem_map] at hx
        obtain ⟨y, hy, rfl⟩ := hx
        exact h1 y hy e
      have h3 : ∀ x ∈ ks, x.1 ≠ i := by
        intro x hx e
        obtain ⟨y, hy, hyx⟩ := hk x hx
        exact h1 y hy (hyx.trans e)
      rw [lastW_none h2, Option.getD_none]
      have e1 : (applyW l ws)[i]? = some l[i] := by rw [applyW_get l ws i hi, lastW_none h1]; rfl
      have e2 : l'[i]? = some l[i] := by rw [hl, applyW_get l ks i hi, lastW_none h3]; rfl
      rw [e2]
      have hlt : i < (applyW l ws).length := by rw [applyW_length]; exact hi
      rw [List.getElem?_eq_getElem hlt] at e1
      exact e1
  · rw [List.getElem?_eq_none (by rw [applyW_length, applyW_length]; omega), List.getElem?_eq_none (by omega)]
end
end Go.Proofs.YtpojlchikaffhaaDoor.DiskP
namespace Go.Proofs.YtpojlchikaffhaaDoor.PageP
open DiskP

/-- How many sectors a record needs; for how many bytes sectors have room. -/
def need (size bytes : Int) : Int := if size < 19 ∨ 4096 < size ∨ bytes < 0 ∨ 1073741824 < bytes then 0 else if (bytes + (size - 18) - 1) / (size - 18) < 1 then 1 else (bytes + (size - 18) - 1) / (size - 18)
def room (size sectors : Int) : Int := if size < 19 ∨ 4096 < size ∨ sectors < 1 ∨ 65536 < sectors then 0 else (size - 18) * sectors
theorem need_pos {size bytes : Int} (h : 1 ≤ need size bytes) : 19 ≤ size ∧ size ≤ 4096 ∧ 0 ≤ bytes ∧ bytes ≤ 1073741824 := by
  unfold need at h
  split at h
  · omega
  · omega
/-- The number that bytes are, the highest first. -/
def beN (l : List UInt8) : Nat := l.foldl (fun n c => n * 256 + c.toNat) 0
theorem beN_snoc (l : List UInt8) (c : UInt8) : beN (l ++ [c]) = beN l * 256 + c.toNat := by simp [beN]
theorem beN_lt (l : List UInt8) : beN l < 256 ^ l.length := by
  suffices h : ∀ n (r : List UInt8), r.length = n → beN r < 256 ^ n from h _ l rfl
  intro n
  induction n with
  | zero => intro r hr; rw [List.length_eq_zero_iff.1 hr]; decide
  | succ n ih =>
    intro r hr
    obtain ⟨r', c, rfl⟩ : ∃ r' c, r = r' ++ [c] := ⟨r.dropLast, r.getLast (by intro e; subst e; simp at hr), (List.dropLast_concat_getLast _).symm⟩
    have h1 := ih r' (by simpa using hr)
    have h2 := c.toNat_lt
    rw [beN_snoc, Nat.pow_succ]
    omega
/-- A number's lowest m bytes, the highest first. -/
def be (m n : Nat) : List UInt8 := (List.range m).map fun i => UInt8.ofNat (n / 256 ^ (m - 1 - i))
theorem be_len (m n : Nat) : (be m n).length = m := by simp [be]
theorem be_get (m n i : Nat) (h : i < m) : (be m n)[i]? = some (UInt8.ofNat (n / 256 ^ (m - 1 - i))) := by simp [be, h]
/-- Bytes with others put over them, from a place on. -/
def spl (l : List UInt8) (o : Nat) (b : List UInt8) : List UInt8 := l.take o ++ b ++ l.drop (o + b.length)
theorem spl_len (l : List UInt8) (o : Nat) (b : List UInt8) (h : o + b.length ≤ l.length) : (spl l o b).length = l.length := by
  unfold spl
  simp only [List.length_append, List.length_take, List.length_drop]
  omega
theorem spl_nil (l : List UInt8) (o : Nat) : spl l o [] = l := by simp [spl]
theorem spl_step (l : List UInt8) (o k : Nat) (b : List UInt8) (c : UInt8) (hc : b[k]? = some c) (h : o + b.length ≤ l.length) : (spl l o (b.take k)).set (o + k) c = spl l o (b.take (k + 1)) := by
  obtain ⟨hk, he⟩ := List.getElem?_eq_some_iff.1 hc
  unfold spl
  have h1 : (b.take k).length = k := by simp; omega
  have h2 : (b.take (k + 1)).length = k + 1 := by simp; omega
  have h3 : (l.take o).length = o := by simp; omega
  rw [h1, h2, List.take_succ_eq_append_getElem hk, he]
  have hd : l.drop (o + k) = l[o + k]'(by omega) :: l.drop (o + (k + 1)) := List.drop_eq_getElem_cons (by omega)
  rw [hd, List.set_append_right _ _ (by simp; omega)]
  have h4 : o + k - (l.take o ++ b.take k).length = 0 := by rw [List.length_append, h1, h3]; omega
  rw [h4]
  simp
theorem spl_get (l : List UInt8) (o k : Nat) (b : List UInt8) (hk : k ≤ b.length) (h : o + b.length ≤ l.length) : ∃ c, (spl l o (b.take k))[o + k]? = some c ∨ k = b.length := by
  by_cases e : k = b.length
  · exact ⟨0, .inr e⟩
  · have : o + k < (spl l o (b.take k)).length := by rw [spl_len _ _ _ (by simp; omega)]; omega
    exact ⟨_, .inl (List.getElem?_eq_getElem this)⟩
/-- Are all bytes 0? -/
def plainB (l : List UInt8) : Bool := l.all (· == 0)
theorem spl_end (a : List UInt8) (n : Nat) (b : List UInt8) (_h : b.length ≤ n) : spl (a ++ List.replicate n 0) a.length b = (a ++ b) ++ List.replicate (n - b.length) 0 := by
  unfold spl
  rw [List.take_left, List.drop_append, List.drop_of_length_le (by omega), show a.length + b.length - a.length = b.length by omega]
  simp
theorem set_end (a : List UInt8) (n : Nat) (c : UInt8) (h : 0 < n) : (a ++ List.replicate n 0).set a.length c = (a ++ [c]) ++ List.replicate (n - 1) 0 := by
  obtain ⟨n, rfl⟩ : ∃ m, n = m + 1 := ⟨n - 1, by omega⟩
  rw [List.set_append_right _ _ (Nat.le_refl _), Nat.sub_self, List.replicate_succ]
  simp
/-- The sum of bytes. -/
def crc (l : List UInt8) : Nat := (SumP.more 0 l).toNat
theorem crc_lt (l : List UInt8) : crc l < 4294967296 := (SumP.more 0 l).isLt
/-- The 64 bits of a number. -/
def mk64 (mark : Int) : Nat := (mark % 18446744073709551616).toNat
theorem mk64_lt (mark : Int) : mk64 mark < 18446744073709551616 := by unfold mk64; have := Int.emod_lt_of_pos mark (show (0 : Int) < 18446744073709551616 by decide); have := Int.emod_nonneg mark (show (18446744073709551616 : Int) ≠ 0 by decide); omega
theorem mk64_int (mark : Int) : mark % 18446744073709551616 = (mk64 mark : Int) := by unfold mk64; have := Int.emod_nonneg mark (show (18446744073709551616 : Int) ≠ 0 by decide); omega
def head (kind : UInt8) (mark : Int) (len : Nat) (first : Bool) : List UInt8 := [kind] ++ be 8 (mk64 mark) ++ be 4 len ++ [if first then 1 else 0]
theorem head_len (kind : UInt8) (mark : Int) (len : Nat) (first : Bool) : (head kind mark len first).length = 14 := by simp [head, be_len]
/-- A sector of a record: b is what is left of the record's bytes. -/
def body (size : Nat) (kind : UInt8) (mark : Int) (b : List UInt8) (first : Bool) : List UInt8 :=
  head kind mark b.length first ++ b.take (size - 18) ++ List.replicate (size - 18 - (b.take (size - 18)).length) 0
theorem body_len (size : Nat) (kind : UInt8) (mark : Int) (b : List UInt8) (first : Bool) (h : 18 ≤ size) : (body size kind mark b first).length = size - 4 := by
  unfold body
  simp only [List.length_append, head_len, List.length_replicate, List.length_take]
  omega
def sect (size : Nat) (kind : UInt8) (mark : Int) (b : List UInt8) (first : Bool) : List UInt8 := body size kind mark b first ++ be 4 (crc (body size kind mark b first))
theorem sect_len (size : Nat) (kind : UInt8) (mark : Int) (b : List UInt8) (first : Bool) (h : 18 ≤ size) : (sect size kind mark b first).length = size := by
  unfold sect
  rw [List.length_append, body_len _ _ _ _ _ h, be_len]
  omega
/-- What a disk is, told the first k sectors of a record. -/
def secs (size at_ : Nat) (kind : UInt8) (mark : Int) (b : List UInt8) (k : Nat) : List (Nat × Sect) := (List.range k).map fun i => (at_ + i, ⟨some (sect size kind mark (b.drop (i * (size - 18))) (i == 0)), false⟩)
def putD (d : Dsk) (at_ : Nat) (kind : UInt8) (mark : Int) (b : List UInt8) (k : Nat) : Dsk := { d with wait := d.wait ++ secs d.size at_ kind mark b k }
theorem putD_zero (d : Dsk) (at_ : Nat) (kind : UInt8) (mark : Int) (b : List UInt8) : putD d at_ kind mark b 0 = d := by simp [putD, secs]
theorem putD_succ (d : Dsk) (at_ : Nat) (kind : UInt8) (mark : Int) (b : List UInt8) (k : Nat) : putD d at_ kind mark b (k + 1) = (putD d at_ kind mark b k).write (at_ + k) (sect d.size kind mark (b.drop (k * (d.size - 18))) (k == 0)) := by
  simp [putD, secs, Dsk.write, List.range_succ]
/-- The rows that Put makes of noughts, one behind the other. -/
def row1 (size : Nat) (kind : UInt8) : List UInt8 := (List.replicate size 0).set 0 kind
def row2 (size : Nat) (kind : UInt8) (mark : Int) : List UInt8 := spl (row1 size kind) 1 (be 8 (mk64 mark))
def row3 (size : Nat) (kind : UInt8) (mark : Int) (len : Nat) : List UInt8 := spl (row2 size kind mark) 9 (be 4 len)
def row4 (size : Nat) (kind : UInt8) (mark : Int) (len : Nat) (first : Bool) : List UInt8 := if first then (row3 size kind mark len).set 13 1 else row3 size kind mark len
def row5 (size : Nat) (kind : UInt8) (mark : Int) (b : List UInt8) (first : Bool) : List UInt8 := spl (row4 size kind mark b.length first) 14 (b.take (size - 18))
theorem row1_eq (size : Nat) (kind : UInt8) (h : 19 ≤ size) : row1 size kind = [kind] ++ List.replicate (size - 1) 0 := by
  have := set_end [] size kind (by omega)
  simpa [row1] using this
theorem row2_eq (size : Nat) (kind : UInt8) (mark : Int) (h : 19 ≤ size) : row2 size kind mark = ([kind] ++ be 8 (mk64 mark)) ++ List.replicate (size - 9) 0 := by
  have := spl_end [kind] (size - 1) (be 8 (mk64 mark)) (by rw [be_len]; omega)
  unfold row2
  rw [row1_eq _ _ h]
  rw [be_len] at this
  exact this
theorem row3_eq (size : Nat) (kind : UInt8) (mark : Int) (len : Nat) (h : 19 ≤ size) : row3 size kind mark len = ([kind] ++ be 8 (mk64 mark) ++ be 4 len) ++ List.replicate (size - 13) 0 := by
  have := spl_end ([kind] ++ be 8 (mk64 mark)) (size - 9) (be 4 len) (by rw [be_len]; omega)
  unfold row3
  rw [row2_eq _ _ _ h]
  rw [be_len, show ([kind] ++ be 8 (mk64 mark)).length = 9 by simp [be_len], show size - 9 - 4 = size - 13 by omega] at this
  exact this
theorem row4_eq (size : Nat) (kind : UInt8) (mark : Int) (len : Nat) (first : Bool) (h : 19 ≤ size) : row4 size kind mark len first = head kind mark len first ++ List.replicate (size - 14) 0 := by
  unfold row4
  rw [row3_eq _ _ _ _ h]
  have h13 : ([kind] ++ be 8 (mk64 mark) ++ be 4 len).length = 13 := by simp [be_len]
  cases first
  · rw [if_neg (by decide)]
    unfold head
    rw [if_neg (by decide), List.append_assoc _ [0]]
    congr 1
    rw [show size - 13 = (size - 14) + 1 by omega, List.replicate_succ]
    rfl
  · rw [if_pos rfl]
    have := set_end ([kind] ++ be 8 (mk64 mark) ++ be 4 len) (size - 13) 1 (by omega)
    rw [h13, show size - 13 - 1 = size - 14 by omega] at this
    exact this
theorem row5_eq (size : Nat) (kind : UInt8) (mark : Int) (b : List UInt8) (first : Bool) (h : 19 ≤ size) : row5 size kind mark b first = body size kind mark b first ++ List.replicate 4 0 := by
  have hl : (b.take (size - 18)).length ≤ size - 18 := by simp; omega
  have := spl_end (head kind mark b.length first) (size - 14) (b.take (size - 18)) (by omega)
  unfold row5
  rw [row4_eq _ _ _ _ _ h]
  rw [head_len] at this
  rw [this]
  unfold body
  rw [List.append_assoc _ (List.replicate _ 0), List.replicate_append_replicate]
  congr 2
  omega
theorem row5_take (size : Nat) (kind : UInt8) (mark : Int) (b : List UInt8) (first : Bool) (h : 19 ≤ size) : (row5 size kind mark b first).take (size - 4) = body size kind mark b first := by
  rw [row5_eq _ _ _ _ _ h]
  exact List.take_left' (body_len _ _ _ _ _ (by omega))
theorem row6_eq (size : Nat) (kind : UInt8) (mark : Int) (b : List UInt8) (first : Bool) (h : 19 ≤ size) : spl (row5 size kind mark b first) (size - 4) (be 4 (crc (body size kind mark b first))) = sect size kind mark b first := by
  have := spl_end (body size kind mark b first) 4 (be 4 (crc (body size kind mark b first))) (by rw [be_len]; omega)
  rw [row5_eq _ _ _ _ _ h]
  rw [body_len _ _ _ _ _ (by omega), be_len] at this
  rw [this]
  unfold sect
  simp
theorem row1_len (size : Nat) (kind : UInt8) : (row1 size kind).length = size := by simp [row1]
theorem row2_len (size : Nat) (kind : UInt8) (mark : Int) (h : 19 ≤ size) : (row2 size kind mark).length = size := by rw [row2_eq _ _ _ h]; simp [be_len]; omega
theorem row3_len (size : Nat) (kind : UInt8) (mark : Int) (len : Nat) (h : 19 ≤ size) : (row3 size kind mark len).length = size := by rw [row3_eq _ _ _ _ h]; simp [be_len]; omega
theorem row4_len (size : Nat) (kind : UInt8) (mark : Int) (len : Nat) (first : Bool) (h : 19 ≤ size) : (row4 size kind mark len first).length = size := by rw [row4_eq _ _ _ _ _ h]; simp [head_len]; omega
theorem row5_len (size : Nat) (kind : UInt8) (mark : Int) (b : List UInt8) (first : Bool) (h : 19 ≤ size) : (row5 size kind mark b first).length = size := by rw [row5_eq _ _ _ _ _ h, List.length_append, body_len _ _ _ _ _ (by omega)]; simp; omega
/-- What Put tells. -/
def putE (d : Dsk) (at_ : Int) (kind : UInt8) (len : Nat) : Int :=
  if d.has at_ = false ∨ kind = 0 then 1 else if need d.size len < 1 ∨ (d.last.length : Int) - at_ < need d.size len then 5 else if d.off then 10 else 0
def putN (d : Dsk) (at_ : Int) (kind : UInt8) (len : Nat) : Int := if putE d at_ kind len = 0 then need d.size len else 0
def putS (d : Dsk) (at_ : Int) (kind : UInt8) (mark : Int) (b : List UInt8) : Dsk := if putE d at_ kind b.length = 0 then putD d at_.toNat kind mark b (need d.size b.length).toNat else d
end Go.Proofs.YtpojlchikaffhaaDoor.PageP
namespace Go.Proofs.YtpojlchikaffhaaDoor
open Go.RowKit

/- ### append onto a row of the call's own, the source whatever can be read -/
/-- What the program's table says of a slice type and its elements. -/
structure El (P : Program) (t e : TypeId) (z : Value) (size bytes : Nat) : Prop where
  info : ∃ i, P.info? e = some i ∧ i.zero = some z ∧ i.size = size ∧ i.bytes = bytes
  under : P.underlying t = some (.slice e)
  cells : z.cells.size = size
  pos : 0 < size
section
variable {P : Program} {w : World} {base : Nat} {t ty e : TypeId} {z : Value} {size bytes n m c : Nat} {v : Value} {xs news : List Value} {A : Option Addr}
theorem run_append_rv (E : El P t e z size bytes) (hown : w.ownsRow base e size v n xs) (hl : news.length = m * size) (hr : RV w A news) (h1 : ∀ u ∈ news, u.oneCell' = true)
    (h63 : n + m ≤ maxLen) (hbytes : (n + m) * bytes ≤ 140737488355328) (hbase : base ≤ w.heap.size) :
    ∃ v' w', (Builtin.append_ #[t, t] ty #[v, .slice A m c]).run P w = .ok v' w' ∧ w'.ownsRow base e size v' (n + m) (xs ++ news) ∧ w.grownBy w' v.ownBlock ∧
      (v'.ownBlock = v.ownBlock ∨ v'.ownBlock = some w.heap.size) := by
  obtain ⟨i, hi, hz, hs, hb⟩ := E.info
  have ht := E.under
  by_cases hnil : A = none
  · subst hnil
    have hnews : news = [] := by
      rcases Classical.em (news = []) with h | h
      · exact h
      · obtain ⟨b, off, h', _⟩ := hr h
        cases h'
    subst hnews
    have hm : m = 0 := by
      have := E.pos
      have h0 : m * size = 0 := by simpa using hl.symm
      rcases Nat.mul_eq_zero.1 h0 with h | h
      · exact h
      · omega
    subst hm
    refine ⟨v, w, ?_, by simpa using hown, World.grownBy.refl w _, .inl rfl⟩
    rcases hown.2 with ⟨rfl, rfl⟩ | ⟨g, cap, cur, rfl, _, _, hnc, _⟩
    · simp [Builtin.append_, run_underlying ht, sizeOf, typeInfo, hi, Builtin.lenOf, Builtin.firstCells]
    · simp [Builtin.append_, run_underlying ht, sizeOf, typeInfo, hi, Builtin.lenOf, Builtin.firstCells, hnc, storeCells]
  · obtain ⟨ad, rfl⟩ : ∃ ad, A = some ad := by cases A with
      | none => exact absurd rfl hnil
      | some ad => exact ⟨ad, rfl⟩
    have hcells : ∀ j u, news[j]? = some u → w.cell? (ad.add j) = some u := by
      intro j u hu
      obtain ⟨b, off, h, _, hc⟩ := hr (by rintro rfl; simp at hu)
      injection h with h
      subst h
      have hadd : (⟨b, off, none⟩ : Addr).add j = ⟨b, off + j, none⟩ := by unfold Addr.add; split <;> simp_all
      rw [hadd]
      exact hc j u hu
    obtain ⟨v', w', hrun, h2, h3, _, h5⟩ := run_append_own_at (P := P) w base t ty e i z size bytes ht hi hz hs hb E.cells E.pos v n xs hown ad m c news hl hcells h1 h63 hbytes hbase
    exact ⟨v', w', hrun, h2, h3, h5⟩
theorem wpList_append_rv {ops : Array Oper} {rest : List Oper} {o : Oper} {a : Act} {Q : Exit → Act → World → Prop} (E : El P t e z size bytes) (hw : Region.wanted o (yielded ops a.tmps) = true) (s x : Operand)
    (ho : o.op = .call { callee := .builtin .append, args := #[s, x], argTypes := #[t, t] })
    (base : Nat) (v : Value) (n : Nat) (xs : List Value) (hs : a.eval s = v) (hown : w.ownsRow base e size v n xs)
    (A : Option Addr) (m c : Nat) (news : List Value) (hx : a.eval x = .slice A m c) (hl : news.length = m * size) (hr : RV w A news) (h1 : ∀ u ∈ news, u.oneCell' = true)
    (h63 : n + m ≤ maxLen) (hbytes : (n + m) * bytes ≤ 140737488355328) (hbase : base ≤ w.heap.size)
    (h : ∀ v' w', w'.ownsRow base e size v' (n + m) (xs ++ news) → w.grownBy w' v.ownBlock → (v'.ownBlock = v.ownBlock ∨ v'.ownBlock = some w.heap.size) → wpList P ops Q rest (a.put o.dst v') w') : wpList P ops Q (o :: rest) a w :=
  BigFrame.wpList_want hw fun K hK => by
    obtain ⟨v', w', hrun, h2, h3, h4⟩ := run_append_rv (P := P) (w := w) (ty := o.type) (c := c) E hown hl hr h1 h63 hbytes hbase
    unfold Oper.wp execOp
    simp only [ho, resolve, invoke, builtin, Sem.run_bind, Sem.run_pure, Result.andThen_ok, List.map_toArray, List.map_cons, List.map_nil, hs, hx, hrun]
    exact hK _ _ (h v' w' h2 h3 h4)
end
/-- An empty row that was just made. -/
theorem own_empty (w : World) {base : Nat} (e : TypeId) (size : Nat) (hb : base ≤ w.heap.size) : (w.alloc (.cells #[] e)).ownsRow base e size (.slice (some ⟨w.heap.size, 0, none⟩) 0 0) 0 [] :=
  ⟨by simp, .inr ⟨w.heap.size, 0, #[], rfl, hb, heap_alloc_new w _, Nat.le_refl _, Nat.zero_le _, by simp, by simp⟩⟩
theorem own_below {w w' : World} {base B : Nat} {e : TypeId} {size n : Nat} {v : Value} {xs : List Value} (h : w.ownsRow base e size v n xs) (hb : Below B w w') (hv : ∀ k, v.ownBlock = some k → k < B) : w'.ownsRow base e size v n xs := by
  refine ⟨h.1, ?_⟩
  rcases h.2 with h0 | ⟨g, cap, cur, rfl, h1, h2, h3, h4, h5, h6⟩
  · exact .inl h0
  · exact .inr ⟨g, cap, cur, rfl, h1, (hb.block g (hv g rfl)).trans h2, h3, h4, h5, h6⟩
end Go.Proofs.YtpojlchikaffhaaDoor
namespace Go.Proofs.YtpojlchikaffhaaDoor
open Go.RowKit DiskP

/-- All blocks but those that F names are as they were. -/
structure Kept (F : Nat → Prop) (w w' : World) : Prop where
  os : w'.os = w.os
  tape : w'.tape = w.tape
  output : w'.output = w.output
  size : w.heap.size ≤ w'.heap.size
  block : ∀ k, k < w.heap.size → ¬ F k → w'.heap[k]? = w.heap[k]?
section
variable {F G : Nat → Prop} {a b w w' : World}
theorem Kept.refl (F : Nat → Prop) (w : World) : Kept F w w := ⟨rfl, rfl, rfl, Nat.le_refl _, fun _ _ _ => rfl⟩
theorem Kept.of_below (h : Below w.heap.size w w') (F : Nat → Prop) : Kept F w w' := ⟨h.os, h.tape, h.output, h.size, fun k hk _ => h.block k hk⟩
theorem Kept.mono (h : Kept F w w') (hf : ∀ k, k < w.heap.size → F k → G k) : Kept G w w' := ⟨h.os, h.tape, h.output, h.size, fun k hk hg => h.block k hk fun hF => hg (hf k hk hF)⟩
theorem Kept.trans (h : Kept F a b) (k : Kept F b w) : Kept F a w :=
  ⟨k.os.trans h.os, k.tape.trans h.tape, k.output.trans h.output, Nat.le_trans h.size k.size, fun i hi hF => (k.block i (Nat.lt_of_lt_of_le hi h.size) hF).trans (h.block i hi hF)⟩
theorem Kept.drew (h : Kept F a w) : Kept F a w.drew := ⟨h.os, h.tape, h.output, h.size, h.block⟩
theorem Kept.alloc (h : Kept F a w) (o : Obj) : Kept F a (w.alloc o) :=
  ⟨h.os, h.tape, h.output, Nat.le_trans h.size (by simp), fun i hi hF => (Below.heap_alloc w o i (Nat.lt_of_lt_of_le hi h.size)).trans (h.block i hi hF)⟩
theorem Kept.setCell (h : Kept F a w) {p : Addr} (hp : F p.block ∨ a.heap.size ≤ p.block) (u : Value) : Kept F a (w.setCell p u) :=
  ⟨h.os, h.tape, h.output, by simpa [World.setCell] using h.size, fun i hi hF => (heap_setCell_other w p i u (by
    rintro rfl
    rcases hp with hp | hp
    · exact hF hp
    · omega)).trans (h.block i hi hF)⟩
theorem Kept.grown {row : Option Nat} (h : Kept F a w) (hg : w.grownBy w' row) (hr : ∀ k, row = some k → F k ∨ a.heap.size ≤ k) : Kept F a w' :=
  ⟨hg.os.trans h.os, hg.tape.trans h.tape, hg.output.trans h.output, Nat.le_trans h.size hg.size, fun i hi hF =>
    (hg.block i (Nat.lt_of_lt_of_le hi h.size) (fun e => by
      rcases hr i e.symm with h | h
      · exact hF h
      · omega)).trans (h.block i hi hF)⟩
theorem Kept.below {B : Nat} (h : Kept F w w') (hF : ∀ k, k < w.heap.size → F k → B ≤ k) (hB : B ≤ w.heap.size) : Below B w w' :=
  ⟨h.os, h.tape, h.output, h.size, fun k hk => h.block k (Nat.lt_of_lt_of_le hk hB) fun hf => by have := hF k (Nat.lt_of_lt_of_le hk hB) hf; omega⟩
end
theorem own_frame {w w' : World} {base : Nat} {e : TypeId} {size n : Nat} {v : Value} {xs : List Value} (h : w.ownsRow base e size v n xs) (hb : ∀ k, v.ownBlock = some k → w'.heap[k]? = w.heap[k]?) : w'.ownsRow base e size v n xs := by
  refine ⟨h.1, ?_⟩
  rcases h.2 with h0 | ⟨g, cap, cur, rfl, h1, h2, h3⟩
  · exact .inl h0
  · exact .inr ⟨g, cap, cur, rfl, h1, (hb g rfl).trans h2, h3⟩

/-- A pointer to a content, or nil. -/
def ptrV : Option Nat → Value
  | none => .pointer none
  | some c => .pointer (some ⟨c, 0, none⟩)
/-- Where all of a disk lies. -/
structure Lay where
  D : Nat
  L : Nat
  T : Nat
  size : Nat
  lp : List (Option Nat)
  wp : List (Nat × Nat)
  wv : Value
  off : Bool
  sect : Nat → Sect
  bv : Nat → Value
def someW (wp : List (Nat × Nat)) : List (Nat × Option Nat) := wp.map fun x => (x.1, some x.2)
def Lay.tp (y : Lay) : List (Option Nat) := applyW y.lp (someW y.wp)
def Lay.ids (y : Lay) (c : Nat) : Prop := some c ∈ y.lp ∨ ∃ n, (n, c) ∈ y.wp
def Lay.dcells (y : Lay) : Array Value :=
  #[.int .i64 (y.size : Int), .slice (some ⟨y.L, 0, none⟩) y.lp.length y.lp.length, .slice (some ⟨y.T, 0, none⟩) y.lp.length y.lp.length, y.wv, .bool y.off]
def wcells (wp : List (Nat × Nat)) : List Value := wp.flatMap fun x => [.int .i64 (x.1 : Int), .pointer (some ⟨x.2, 0, none⟩)]
def BytesOK (w : World) (base size : Nat) (v : Value) : Option (List UInt8) → Prop
  | none => v = .slice none 0 0
  | some l => l.length = size ∧ w.ownsRow base 5 1 v size (cB l)
def Lay.foot (y : Lay) (k : Nat) : Prop := k = y.D ∨ k = y.L ∨ k = y.T ∨ y.wv.ownBlock = some k ∨ y.ids k ∨ ∃ c, y.ids c ∧ (y.bv c).ownBlock = some k
structure DiskOK (w : World) (base : Nat) (y : Lay) : Prop where
  dk : Blk w y.D 84 y.dcells
  lk : Blk w y.L 89 (y.lp.map ptrV).toArray
  tk : Blk w y.T 89 (y.tp.map ptrV).toArray
  wk : w.ownsRow base 91 2 y.wv y.wp.length (wcells y.wp)
  ck : ∀ c, y.ids c → Blk w c 93 #[y.bv c, .bool (y.sect c).bytes.isNone, .bool (y.sect c).rot]
  bk : ∀ c, y.ids c → BytesOK w base y.size (y.bv c) (y.sect c).bytes
  bD : base ≤ y.D
  bL : base ≤ y.L
  bT : base ≤ y.T
  bc : ∀ c, y.ids c → base ≤ c
  n1 : ∀ (i j c : Nat), y.lp[i]? = some (some c) → y.lp[j]? = some (some c) → i = j
  n2 : ∀ (i j n m c : Nat), y.wp[i]? = some (n, c) → y.wp[j]? = some (m, c) → i = j
  n3 : ∀ (c n : Nat), some c ∈ y.lp → (n, c) ∈ y.wp → False
  nb : ∀ (c c' k : Nat), y.ids c → y.ids c' → (y.bv c).ownBlock = some k → (y.bv c').ownBlock = some k → c = c'
  lt : y.L ≠ y.T
  wr : ∀ (n c : Nat), (n, c) ∈ y.wp → n < y.lp.length
  s1 : 16 ≤ y.size
  s2 : y.size ≤ 4096
  l1 : 1 ≤ y.lp.length
  l2 : y.lp.length ≤ 65536
/-- What it is, in plain words. -/
def ptrS (size : Nat) (sect : Nat → Sect) : Option Nat → Sect
  | none => zeroS size
  | some c => sect c
def Lay.abs (y : Lay) : Dsk := ⟨y.size, y.lp.map (ptrS y.size y.sect), y.wp.map fun x => (x.1, y.sect x.2), y.off⟩

theorem BytesOK.frame {w w' : World} {base size : Nat} {v : Value} {o : Option (List UInt8)} (h : BytesOK w base size v o) (hb : ∀ k, v.ownBlock = some k → w'.heap[k]? = w.heap[k]?) : BytesOK w' base size v o := by
  cases o with
  | none => exact h
  | some l => exact ⟨h.1, own_frame h.2 hb⟩
/-- Nothing of a disk turns where its blocks don't. -/
theorem DiskOK.frame {w w' : World} {base : Nat} {y : Lay} (h : DiskOK w base y) (hb : ∀ k, y.foot k → w'.heap[k]? = w.heap[k]?) : DiskOK w' base y :=
  { h with
    dk := (hb _ (.inl rfl)).trans h.dk
    lk := (hb _ (.inr (.inl rfl))).trans h.lk
    tk := (hb _ (.inr (.inr (.inl rfl)))).trans h.tk
    wk := own_frame h.wk fun k hk => hb k (.inr (.inr (.inr (.inl hk))))
    ck := fun c hc => (hb c (.inr (.inr (.inr (.inr (.inl hc)))))).trans (h.ck c hc)
    bk := fun c hc => (h.bk c hc).frame fun k hk => hb k (.inr (.inr (.inr (.inr (.inr ⟨c, hc, hk⟩))))) }
theorem own_lt {w : World} {base : Nat} {e : TypeId} {size n : Nat} {v : Value} {xs : List Value} (h : w.ownsRow base e size v n xs) {k : Nat} (hk : v.ownBlock = some k) : base ≤ k ∧ k < w.heap.size := h.lt k hk
theorem BytesOK.lt {w : World} {base size : Nat} {v : Value} {o : Option (List UInt8)} (h : BytesOK w base size v o) {k : Nat} (hk : v.ownBlock = some k) : base ≤ k ∧ k < w.heap.size := by
  cases o with
  | none => unfold BytesOK at h; rw [h] at hk; cases hk
  | some l => exact own_lt h.2 hk
theorem DiskOK.foot_lt {w : World} {base : Nat} {y : Lay} (h : DiskOK w base y) {k : Nat} (hk : y.foot k) : base ≤ k ∧ k < w.heap.size := by
  rcases hk with rfl | rfl | rfl | hk | hk | ⟨c, hc, hk⟩
  · exact ⟨h.bD, h.dk.lt⟩
  · exact ⟨h.bL, h.lk.lt⟩
  · exact ⟨h.bT, h.tk.lt⟩
  · exact own_lt h.wk hk
  · exact ⟨h.bc k hk, (h.ck k hk).lt⟩
  · exact (h.bk c hc).lt hk
theorem DiskOK.below {w w' : World} {base : Nat} {y : Lay} (h : DiskOK w base y) (hb : Below w.heap.size w w') : DiskOK w' base y := h.frame fun k hk => hb.block k (h.foot_lt hk).2
theorem DiskOK.kept {w w' : World} {base : Nat} {y : Lay} {F : Nat → Prop} (h : DiskOK w base y) (hb : Kept F w w') (hF : ∀ k, y.foot k → ¬ F k) : DiskOK w' base y := h.frame fun k hk => hb.block k (h.foot_lt hk).2 (hF k hk)
theorem abs_told (y : Lay) : y.abs.told = y.tp.map (ptrS y.size y.sect) := by
  show applyW (y.lp.map (ptrS y.size y.sect)) (y.wp.map fun x => (x.1, y.sect x.2)) = (applyW y.lp (someW y.wp)).map (ptrS y.size y.sect)
  rw [← applyW_map]
  congr 1
  simp [someW, ptrS]
theorem tp_len (y : Lay) : y.tp.length = y.lp.length := applyW_length _ _
theorem tp_ids (y : Lay) {c : Nat} (h : some c ∈ y.tp) : y.ids c := by
  have : ∀ (l : List (Option Nat)) (ws : List (Nat × Nat)), some c ∈ applyW l (someW ws) → some c ∈ l ∨ ∃ n, (n, c) ∈ ws := by
    intro l ws
    induction ws generalizing l with
    | nil => intro h; exact .inl h
    | cons x ws ih =>
      intro h
      rcases ih (l.set x.1 (some x.2)) h with h | ⟨n, h⟩
      · rcases List.mem_or_eq_of_mem_set h with h | h
        · exact .inl h
        · injection h with h; exact .inr ⟨x.1, by rw [h]; simp⟩
      · exact .inr ⟨n, by simp [h]⟩
  exact this _ _ h
end Go.Proofs.YtpojlchikaffhaaDoor
namespace Go.Proofs.YtpojlchikaffhaaDoor
open Go.RowKit

open Classical in
/-- A later world: r, if nothing that lay in w has turned in it; else w itself. -/
noncomputable def grow (w r : World) : World := if Below w.heap.size w r then r else w
theorem grow_below (w r : World) : Below w.heap.size w (grow w r) := by
  unfold grow
  split
  · assumption
  · exact Below.refl _ _
theorem grow_of {w r : World} (h : Below w.heap.size w r) : grow w r = r := if_pos h
theorem grow_cell (w r : World) (b o : Nat) (hb : b < w.heap.size) : (grow w r).cell? ⟨b, o, none⟩ = w.cell? ⟨b, o, none⟩ := (grow_below w r).cell (p := ⟨b, o, none⟩) hb
theorem wp_region_grow {P : Program} {id : Nat} {Q : Exit → Act → World → Prop} {a : Act} {w : World} {l : List Oper} (hm : P.follows .mixedOrders = true) (hB : Region.lexB .any l.toArray = true)
    (h : wpQuiet P l.toArray (fun w' => ∃ r, w' = grow w r) (fun a' => ∀ w', (∃ r, w' = grow w r) → Q .normal a' w') l a) : (Code.region id l.toArray true).wp P Q a w :=
  wp_region_quiet (C := fun w' => ∃ r, w' = grow w r) hm hB ⟨w.drew, (grow_of ((Below.refl _ _).drew)).symm⟩ (by simpa using h)
theorem calls_grow {P : Program} {f : FuncId} {args : Array Value} {w r : World} {v : Value}
    (h : Calls P f args (grow w r) fun e w' => e = .returned v ∧ Below (grow w r).heap.size (grow w r) w') : Calls P f args (grow w r) fun e w' => e = .returned v ∧ ∃ r', w' = grow w r' :=
  h.mono fun _ w' ⟨he, hb⟩ => ⟨he, w', (grow_of ((grow_below w r).trans (hb.mono (grow_below w r).size))).symm⟩
theorem calls_grow_same {P : Program} {f : FuncId} {args : Array Value} {w r : World} {v : Value}
    (h : Calls P f args (grow w r) fun e w' => e = .returned v ∧ grow w r = w') : Calls P f args (grow w r) fun e w' => e = .returned v ∧ ∃ r', w' = grow w r' :=
  h.mono fun _ _ ⟨he, hb⟩ => ⟨he, r, hb.symm⟩
end Go.Proofs.YtpojlchikaffhaaDoor
namespace Go.Proofs.YtpojlchikaffhaaDoor
open Go.RowKit

/-- n cells, all z. -/
def rep (n : Nat) (z : Value) : Array Value := (List.replicate n z).toArray
theorem rep_at {n i : Nat} {z : Value} (h : i < n) : (rep n z)[i]? = some z := by simp [rep, h]
theorem rep_size (n : Nat) (z : Value) : (rep n z).size = n := by simp [rep]
theorem rep_list (n : Nat) (z : Value) : (rep n z).toList = List.replicate n z := rfl
theorem made_rep (z : Value) (n : Nat) : madeCells #[z] (n * 1) = rep n z := by
  apply Array.ext_getElem?
  intro i
  rw [Nat.mul_one]
  by_cases h : i < n
  · simp [madeCells, rep, h, Nat.mod_one]
  · simp [madeCells, rep, h]
theorem run_make_n {P : Program} {t e : TypeId} {z : Value} {bytes : Nat} (E : El P t e z 1 bytes) (hz : z.cells = #[z]) (n : Nat) (hb : bytes * n ≤ 281474976710656) (h63 : n ≤ 9223372036854775807) (w : World) :
    (Instr.makeSlice t (.int .i64 (n : Int)) (.int .i64 (n : Int))).run P w = .ok (.slice (some ⟨w.heap.size, 0, none⟩) n n) (w.alloc (.cells (rep n z) e)) := by
  obtain ⟨i, hi, hz0, hs, hby⟩ := E.info
  have hb' : (i.bytes : Int) * (n : Int) ≤ 281474976710656 := by
    rw [hby, ← Int.natCast_mul]
    omega
  have := run_make (P := P) w t e i z E.under hi hz0 .i64 .i64 n n (by omega) (by omega) hb' (by omega)
  simp only [Int.toNat_natCast] at this
  rw [hs, hz, made_rep] at this
  exact this
theorem own_made (w : World) {base : Nat} (e : TypeId) (n : Nat) (z : Value) (hb : base ≤ w.heap.size) (hn : n ≤ maxLen) : (w.alloc (.cells (rep n z) e)).ownsRow base e 1 (.slice (some ⟨w.heap.size, 0, none⟩) n n) n (List.replicate n z) :=
  ⟨by simp, .inr ⟨w.heap.size, n, rep n z, rfl, hb, heap_alloc_new w _, Nat.le_refl _, hn, by simp [rep], by simp [rep]⟩⟩
/-- What can be read, as copy's law asks for it. -/
theorem rv_cells {w : World} {A : Option Addr} {vs : List Value} (h : RV w A vs) : 0 < vs.length → ∃ ad, A = some ad ∧ ∀ (j : Nat) (v : Value), vs[j]? = some v → w.cell? (ad.add j) = some v := by
  intro hl
  obtain ⟨b, off, rfl, _, hc⟩ := h (by rintro rfl; simp at hl)
  refine ⟨_, rfl, fun j v hv => ?_⟩
  have hadd : (⟨b, off, none⟩ : Addr).add j = ⟨b, off + j, none⟩ := by unfold Addr.add; split <;> simp_all
  rw [hadd]
  exact hc j v hv
theorem splice_all (a b : List Value) (h : b.length = a.length) : splice a 0 b = b := by
  unfold splice
  simp [h]
end Go.Proofs.YtpojlchikaffhaaDoor
namespace Go.Proofs.YtpojlchikaffhaaDoor
open Go.RowKit

/-- append of what can be read onto a row of the call's own, as one step of a region that draws. -/
theorem step_append_rv {P : Program} {w : World} {base : Nat} {t e : TypeId} {z : Value} {size bytes n m c : Nat} {v : Value} {xs news : List Value} {A : Option Addr} {ops : Array Oper} {o : Oper} {a : Act} {K : Act → World → Prop} {Q : Exit → Act → World → Prop} {E : Prop}
    (El0 : El P t e z size bytes) (hg : o.guard = none) (s x : Operand)
    (ho : o.op = .call { callee := .builtin .append, args := #[s, x], argTypes := #[t, t] })
    (hs : a.eval s = v) (hown : w.ownsRow base e size v n xs)
    (hx : a.eval x = .slice A m c) (hl : news.length = m * size) (hr : RV w A news) (h1 : ∀ u ∈ news, u.oneCell' = true)
    (h63 : n + m ≤ maxLen) (hbytes : (n + m) * bytes ≤ 140737488355328) (hbase : base ≤ w.heap.size)
    (hK : ∀ v' w', w'.ownsRow base e size v' (n + m) (xs ++ news) → w.grownBy w' v.ownBlock → (v'.ownBlock = v.ownBlock ∨ v'.ownBlock = some w.heap.size) → K (a.put o.dst v') w') :
    if Region.wanted o (yielded ops a.tmps) = true then Oper.wp P o a w K Q else E := by
  have hw : Region.wanted o (yielded ops a.tmps) = true := by simp [Region.wanted, hg]
  rw [if_pos hw]
  obtain ⟨v', w', hrun, h2, h3, h4⟩ := run_append_rv (P := P) (w := w) (ty := o.type) (c := c) El0 hown hl hr h1 h63 hbytes hbase
  unfold Oper.wp execOp
  simp only [ho, resolve, invoke, builtin, Sem.run_bind, Sem.run_pure, Result.andThen_ok, List.map_toArray, List.map_cons, List.map_nil, hs, hx, hrun]
  exact hK _ _ h2 h3 h4
end Go.Proofs.YtpojlchikaffhaaDoor
