/-
  Words for memory: a slice of bytes that reads as a list.
-/
import Derived.WalkKit
import Derived.Deep.Draws
import Derived.Laws.OwnMore
import Derived.Maps.AppendAt
import Derived.Deep.AppendLies
import Derived.OwnWalk
namespace Go.Proofs.YtnjcaepbelgpfaaGreatDoor
open Go.RowKit

/-- A slice at A reads as the cells vs (where there are none A may be anything). -/
def RV (w : World) (A : Option Addr) (vs : List Value) : Prop :=
  vs ≠ [] → ∃ b off, A = some ⟨b, off, none⟩ ∧ b < w.heap.size ∧ ∀ j v, vs[j]? = some v → w.cell? ⟨b, off + j, none⟩ = some v
section
variable {w w' : World} {A : Option Addr} {vs : List Value}
theorem RV.at_ (h : RV w A vs) {k : Nat} (hk : k < vs.length) : ∃ b off, A = some ⟨b, off, none⟩ ∧ b < w.heap.size ∧ w.cell? ⟨b, off + k, none⟩ = some vs[k] := by
  obtain ⟨b, off, rfl, hb, hc⟩ := h (by rintro rfl; simp at hk)
  exact ⟨b, off, rfl, hb, hc k _ (List.getElem?_eq_getElem hk)⟩
theorem RV.keep (h : RV w A vs) (hs : w.heap.size ≤ w'.heap.size) (hk : ∀ p : Addr, p.block < w.heap.size → w'.cell? p = w.cell? p) : RV w' A vs := by
  intro hl
  obtain ⟨b, off, e, hb, hc⟩ := h hl
  exact ⟨b, off, e, Nat.lt_of_lt_of_le hb hs, fun j c hj => (hk _ hb).trans (hc j c hj)⟩
theorem RV.below (h : RV w A vs) (hb : Below w.heap.size w w') : RV w' A vs := h.keep hb.size fun _ hp => hb.cell hp
theorem RV.nil : RV w A [] := fun h => absurd rfl h
theorem RV.alloc (h : RV w A vs) (o : Obj) : RV (w.alloc o) A vs := h.below ((Below.refl _ _).alloc (Nat.le_refl _) o)
theorem RV.drew (h : RV w A vs) : RV w.drew A vs := h
theorem RV.drewN (h : RV w A vs) (n : Nat) : RV (w.drewN n) A vs := h
theorem RV.new (w : World) (vs : List Value) (t : TypeId) (f : Nat × Nat) : RV (w.alloc (.cells vs.toArray t f)) (some ⟨w.heap.size, 0, none⟩) vs := by
  intro _
  refine ⟨_, _, rfl, by simp, fun j c hj => ?_⟩
  rw [World.cell?_alloc_mark]
  simpa using hj
end
/-- A byte's cell; a number's. -/
def byteV (c : UInt8) : Value := .int .u8 (c.toNat : Int)
def intV (n : Int) : Value := .int .i64 n
/-- Bytes' cells; numbers'. -/
def cB (l : List UInt8) : List Value := l.map byteV
def cI (l : List Int) : List Value := l.map intV
theorem cB_len (l : List UInt8) : (cB l).length = l.length := by simp [cB]
theorem cI_len (l : List Int) : (cI l).length = l.length := by simp [cI]
theorem cB_get {l : List UInt8} {k : Nat} (h : k < (cB l).length) : (cB l)[k] = .int .u8 ((l[k]'(by rwa [cB_len] at h)).toNat : Int) := by simp [cB, byteV]
theorem cI_get {l : List Int} {k : Nat} (h : k < (cI l).length) : (cI l)[k] = .int .i64 (l[k]'(by rwa [cI_len] at h)) := by simp [cI, intV]
theorem cB_append (a b : List UInt8) : cB (a ++ b) = cB a ++ cB b := by simp [cB]
theorem cI_append (a b : List Int) : cI (a ++ b) = cI a ++ cI b := by simp [cI]
theorem cB_one (l : List UInt8) : ∀ u ∈ cB l, u.oneCell' = true := by
  intro u hu; simp only [cB, List.mem_map] at hu; obtain ⟨c, _, rfl⟩ := hu; rfl
theorem cI_one (l : List Int) : ∀ u ∈ cI l, u.oneCell' = true := by
  intro u hu; simp only [cI, List.mem_map] at hu; obtain ⟨c, _, rfl⟩ := hu; rfl
theorem one_of_int (k : IntKind) (n : Int) : ∀ u ∈ [Value.int k n], u.oneCell' = true := by
  intro u hu; simp only [List.mem_singleton] at hu; subst hu; rfl
/-- A slice at A reads as the bytes l; the numbers l. -/
def RB (w : World) (A : Option Addr) (l : List UInt8) : Prop := RV w A (cB l)
def RI (w : World) (A : Option Addr) (l : List Int) : Prop := RV w A (cI l)
section
variable {w w' : World} {A : Option Addr} {l : List UInt8}
theorem RB.at_ (h : RB w A l) {k : Nat} (hk : k < l.length) :
    ∃ b off, A = some ⟨b, off, none⟩ ∧ b < w.heap.size ∧ w.cell? ⟨b, off + k, none⟩ = some (.int .u8 (l[k].toNat : Int)) := by
  obtain ⟨b, off, e, hb, hc⟩ := RV.at_ h (k := k) (by rwa [cB_len])
  exact ⟨b, off, e, hb, by rw [hc, cB_get]⟩
theorem RB.below (h : RB w A l) (hb : Below w.heap.size w w') : RB w' A l := RV.below h hb
theorem RB.nil : RB w A [] := RV.nil
theorem RB.alloc (h : RB w A l) (o : Obj) : RB (w.alloc o) A l := RV.alloc h o
theorem RB.drew (h : RB w A l) : RB w.drew A l := h
theorem RB.drewN (h : RB w A l) (n : Nat) : RB (w.drewN n) A l := h
theorem RB.of_blk {g : Nat} {t : TypeId} {cs : Array Value} (h : w.heap[g]? = some (.cells cs t (0, 0))) (hc : cs.toList = cB l) : RB w (some ⟨g, 0, none⟩) l := by
  intro _
  refine ⟨_, _, rfl, lt_of_block h, fun j c hj => ?_⟩
  rw [cell_of_row w g _ cs t (0, 0) h, ← Array.getElem?_toList, hc, Nat.zero_add]
  exact hj
end
theorem RI.at_ {w : World} {A : Option Addr} {l : List Int} (h : RI w A l) {k : Nat} (hk : k < l.length) :
    ∃ b off, A = some ⟨b, off, none⟩ ∧ b < w.heap.size ∧ w.cell? ⟨b, off + k, none⟩ = some (.int .i64 l[k]) := by
  obtain ⟨b, off, e, hb, hc⟩ := RV.at_ h (k := k) (by rwa [cI_len])
  exact ⟨b, off, e, hb, by rw [hc, cI_get]⟩
theorem RI.below {w w' : World} {A : Option Addr} {l : List Int} (h : RI w A l) (hb : Below w.heap.size w w') : RI w' A l := RV.below h hb
/-- It gives bytes back; nothing that was there has turned. -/
def RetBytes (w : World) (l : List UInt8) (e : Ending) (w' : World) : Prop :=
  ∃ A c, e = .returned (.slice A l.length c) ∧ RB w' A l ∧ Below w.heap.size w w'

/- ### A block that is known whole -/
def Blk (w : World) (g : Nat) (t : TypeId) (cs : Array Value) : Prop := w.heap[g]? = some (.cells cs t (0, 0))
section
variable {w w' : World} {g : Nat} {t : TypeId} {cs : Array Value}
theorem Blk.lt (h : Blk w g t cs) : g < w.heap.size := lt_of_block h
theorem Blk.cell (h : Blk w g t cs) (i : Nat) : w.cell? ⟨g, i, none⟩ = cs[i]? := cell_of_row w g i cs t (0, 0) h
theorem Blk.at_ (h : Blk w g t cs) {i : Nat} {v : Value} (hv : cs[i]? = some v) : w.cell? ⟨g, i, none⟩ = some v := (h.cell i).trans hv
theorem Blk.frozen (h : Blk w g t cs) (i : Nat) : w.frozen? ⟨g, i, none⟩ = false := frozen_of_row w g i cs t h
theorem Blk.new (w : World) (t : TypeId) (cs : Array Value) : Blk (w.alloc (.cells cs t)) w.heap.size t cs := heap_alloc_new w _
theorem Blk.alloc (h : Blk w g t cs) (o : Obj) : Blk (w.alloc o) g t cs := (Below.heap_alloc w o g h.lt).trans h
theorem Blk.drew (h : Blk w g t cs) : Blk w.drew g t cs := h
theorem Blk.drewN (h : Blk w g t cs) (n : Nat) : Blk (w.drewN n) g t cs := h
theorem Blk.set_ (h : Blk w g t cs) (i : Nat) (u : Value) : Blk (w.setCell ⟨g, i, none⟩ u) g t (cs.setIfInBounds i u) := heap_setCell_same w g i cs t u h
theorem Blk.far (h : Blk w g t cs) {p : Addr} (hp : g ≠ p.block) (u : Value) : Blk (w.setCell p u) g t cs := (heap_setCell_other w p g u hp).trans h
theorem Blk.below {B : Nat} (h : Blk w g t cs) (hb : Below B w w') (hg : g < B) : Blk w' g t cs := (hb.block g hg).trans h
theorem Blk.setRow_ (h : Blk w g t cs) (cs' : Array Value) : Blk (w.setRow g cs') g t cs' := setRow_heap w g cs cs' t _ h
end
theorem below_setRow {B : Nat} {a w : World} (h : Below B a w) {g : Nat} (hg : B ≤ g) (cs : Array Value) : Below B a (w.setRow g cs) :=
  ⟨h.os, h.tape, h.output, by simpa using h.size, fun k hk => by
    have : (w.setRow g cs).heap[k]? = w.heap[k]? := by
      simp only [World.setRow, Array.getElem?_modify]
      rw [if_neg (by omega)]
    rw [this]; exact h.block k hk⟩

/- ### A row of the call's own -/
theorem add_zero_off (g j : Nat) : (⟨g, 0, none⟩ : Addr).add j = ⟨g, j, none⟩ := by unfold Addr.add; split <;> simp_all
section
variable {w : World} {base : Nat} {e : TypeId} {size n : Nat} {v : Value} {xs : List Value}
theorem own_form (h : w.ownsRow base e size v n xs) : ∃ A c, v = .slice A n c ∧ n ≤ c ∧ c ≤ maxLen := by
  rcases h.2 with ⟨rfl, rfl⟩ | ⟨g, cap, cur, rfl, _, _, hn, hm, _⟩
  · exact ⟨none, 0, rfl, Nat.le_refl _, Nat.zero_le _⟩
  · exact ⟨_, _, rfl, hn, hm⟩
theorem RV.of_own {A : Option Addr} {c : Nat} (h : w.ownsRow base e 1 (.slice A n c) n xs) : RV w A xs := by
  intro hne
  have hn : 0 < n := by have := h.1; rcases xs with _ | ⟨a, xs⟩; exact absurd rfl hne; simp at this; omega
  rcases h.2 with ⟨hv, h0⟩ | ⟨g, cap, cur, hv, _, hh, hnc, _⟩
  · omega
  · injection hv with hA
    subst hA
    refine ⟨g, 0, rfl, lt_of_block hh, fun j u hu => ?_⟩
    have := h.cells (g := g) rfl j u hu
    rw [add_zero_off] at this
    rwa [Nat.zero_add]
end
end Go.Proofs.YtnjcaepbelgpfaaGreatDoor
