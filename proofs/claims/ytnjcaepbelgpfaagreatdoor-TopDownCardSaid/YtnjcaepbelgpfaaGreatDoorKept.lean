/-
  Words for memory: all blocks but some are as they were; what is read lies in none of some blocks.
-/
import Derived.Test.YtnjcaepbelgpfaaGreatDoorMem2
import Derived.Lib.Hide
namespace Go.Proofs.YtnjcaepbelgpfaaGreatDoor
open Go.RowKit

/-- All blocks but those that F names are as they were. -/
structure Kept (F : Nat → Prop) (w w' : World) : Prop where
  os : w'.os = w.os
  tape : w'.tape = w.tape
  output : w'.output = w.output
  size : w.heap.size ≤ w'.heap.size
  block : ∀ k, k < w.heap.size → ¬ F k → w'.heap[k]? = w.heap[k]?
section
variable {F G : Nat → Prop} {a b w w' : World}
theorem Kept.refl (F : Nat → Prop) (w : World) : Kept F w w := ⟨rfl, rfl, rfl, Nat.le_refl _, fun _ _ _ => rfl⟩
theorem Kept.of_below (h : Below w.heap.size w w') (F : Nat → Prop) : Kept F w w' := ⟨h.os, h.tape, h.output, h.size, fun k hk _ => h.block k hk⟩
theorem Kept.mono (h : Kept F w w') (hf : ∀ k, k < w.heap.size → F k → G k) : Kept G w w' := ⟨h.os, h.tape, h.output, h.size, fun k hk hg => h.block k hk fun hF => hg (hf k hk hF)⟩
theorem Kept.trans (h : Kept F a b) (k : Kept F b w) : Kept F a w :=
  ⟨k.os.trans h.os, k.tape.trans h.tape, k.output.trans h.output, Nat.le_trans h.size k.size, fun i hi hF => (k.block i (Nat.lt_of_lt_of_le hi h.size) hF).trans (h.block i hi hF)⟩
theorem Kept.drew (h : Kept F a w) : Kept F a w.drew := ⟨h.os, h.tape, h.output, h.size, h.block⟩
theorem Kept.alloc (h : Kept F a w) (o : Obj) : Kept F a (w.alloc o) :=
  ⟨h.os, h.tape, h.output, Nat.le_trans h.size (by simp), fun i hi hF => (Below.heap_alloc w o i (Nat.lt_of_lt_of_le hi h.size)).trans (h.block i hi hF)⟩
theorem Kept.setCell (h : Kept F a w) {p : Addr} (hp : F p.block ∨ a.heap.size ≤ p.block) (u : Value) : Kept F a (w.setCell p u) :=
  ⟨h.os, h.tape, h.output, by simpa [World.setCell] using h.size, fun i hi hF => (heap_setCell_other w p i u (by
    rintro rfl
    rcases hp with hp | hp
    · exact hF hp
    · omega)).trans (h.block i hi hF)⟩
theorem Kept.grown {row : Option Nat} (h : Kept F a w) (hg : w.grownBy w' row) (hr : ∀ k, row = some k → F k ∨ a.heap.size ≤ k) : Kept F a w' :=
  ⟨hg.os.trans h.os, hg.tape.trans h.tape, hg.output.trans h.output, Nat.le_trans h.size hg.size, fun i hi hF =>
    (hg.block i (Nat.lt_of_lt_of_le hi h.size) (fun e => by
      rcases hr i e.symm with h | h
      · exact hF h
      · omega)).trans (h.block i hi hF)⟩
theorem Kept.below {B : Nat} (h : Kept F w w') (hF : ∀ k, k < w.heap.size → F k → B ≤ k) (hB : B ≤ w.heap.size) : Below B w w' :=
  ⟨h.os, h.tape, h.output, h.size, fun k hk => h.block k (Nat.lt_of_lt_of_le hk hB) fun hf => by have := hF k (Nat.lt_of_lt_of_le hk hB) hf; omega⟩
end
theorem own_frame {w w' : World} {base : Nat} {e : TypeId} {size n : Nat} {v : Value} {xs : List Value} (h : w.ownsRow base e size v n xs) (hb : ∀ k, v.ownBlock = some k → w'.heap[k]? = w.heap[k]?) : w'.ownsRow base e size v n xs := by
  refine ⟨h.1, ?_⟩
  rcases h.2 with h0 | ⟨g, cap, cur, rfl, h1, h2, h3⟩
  · exact .inl h0
  · exact .inr ⟨g, cap, cur, rfl, h1, (hb g rfl).trans h2, h3⟩

/-- What is read lies in none of those blocks. -/
def RVF (w : World) (F : Nat → Prop) (A : Option Addr) (vs : List Value) : Prop :=
  vs ≠ [] → ∃ b off, A = some ⟨b, off, none⟩ ∧ b < w.heap.size ∧ ¬ F b ∧ ∀ j v, vs[j]? = some v → w.cell? ⟨b, off + j, none⟩ = some v
theorem RVF.of_low {w : World} {base : Nat} {F : Nat → Prop} {A : Option Addr} {vs : List Value} (h : RV w A vs) (hb : ∀ b off, A = some ⟨b, off, none⟩ → b < base) (hF : ∀ k, F k → base ≤ k) : RVF w F A vs := by
  intro hne
  obtain ⟨b, off, e, h1, h2⟩ := h hne
  exact ⟨b, off, e, h1, fun hf => by have := hF b hf; have := hb b off e; omega, h2⟩
theorem RVF.nil {w : World} {F : Nat → Prop} {A : Option Addr} : RVF w F A [] := fun h => absurd rfl h
theorem RVF.rv {w : World} {F : Nat → Prop} {A : Option Addr} {vs : List Value} (h : RVF w F A vs) : RV w A vs := fun hne => by
  obtain ⟨b, off, e, h1, _, h2⟩ := h hne
  exact ⟨b, off, e, h1, h2⟩
theorem RVF.kept {w w' : World} {F : Nat → Prop} {A : Option Addr} {vs : List Value} (h : RVF w F A vs) (hk : Kept F w w') : RVF w' F A vs := fun hne => by
  obtain ⟨b, off, e, h1, h2, h3⟩ := h hne
  exact ⟨b, off, e, Nat.lt_of_lt_of_le h1 hk.size, h2, fun j v hj => (World.cell?_of_block (w := w) (hk.block b h1 h2)).trans (h3 j v hj)⟩
theorem RVF.mono {w : World} {F G : Nat → Prop} {A : Option Addr} {vs : List Value} (h : RVF w F A vs) (hG : ∀ k, k < w.heap.size → G k → F k) : RVF w G A vs := fun hne => by
  obtain ⟨b, off, e, h1, h2, h3⟩ := h hne
  exact ⟨b, off, e, h1, fun g => h2 (hG b h1 g), h3⟩
theorem RVF.next {w w' : World} {F G : Nat → Prop} {A : Option Addr} {vs : List Value} (h : RVF w F A vs) (hk : Kept F w w') (hG : ∀ k, k < w.heap.size → G k → F k) : RVF w' G A vs := fun hne => by
  obtain ⟨b, off, e, h1, h2, h3⟩ := h hne
  exact ⟨b, off, e, Nat.lt_of_lt_of_le h1 hk.size, fun g => h2 (hG b h1 g), fun j v hj => (World.cell?_of_block (w := w) (hk.block b h1 h2)).trans (h3 j v hj)⟩
theorem own_rvf {w : World} {N n c : Nat} {e : TypeId} {F : Nat → Prop} {A : Option Addr} {xs : List Value} (h : w.ownsRow N e 1 (.slice A n c) n xs) (hF : ∀ k, F k → k < N ∨ w.heap.size ≤ k) : RVF w F A xs := fun hne => by
  obtain ⟨b, off, e, h1, h2⟩ := RV.of_own h hne
  subst e
  have := h.lt b rfl
  exact ⟨b, off, rfl, h1, fun hf => by rcases hF b hf with h3 | h3 <;> omega, h2⟩
theorem RVF.below {w w' : World} {F : Nat → Prop} {A : Option Addr} {vs : List Value} (h : RVF w F A vs) (hb : Below w.heap.size w w') : RVF w' F A vs := h.kept (Kept.of_below hb F)
theorem own_mono {w : World} {base b' : Nat} {e : TypeId} {size n : Nat} {v : Value} {xs : List Value} (h : w.ownsRow base e size v n xs) (hb : b' ≤ base) : w.ownsRow b' e size v n xs := by
  refine ⟨h.1, ?_⟩
  rcases h.2 with h0 | ⟨g, cap, cur, rfl, h1, h2⟩
  · exact .inl h0
  · exact .inr ⟨g, cap, cur, rfl, Nat.le_trans hb h1, h2⟩
/-- The world under a name of its own, with what is known of it. -/
theorem wpList_abs {P : Program} {ops : Array Oper} {Q : Exit → Act → World → Prop} {l : List Oper} {a : Act} {w : World} (S : World → Prop) (hS : S w) (h : ∀ w', S w' → wpList P ops Q l a w') : wpList P ops Q l a w := h w hS
/-- The world under a name of its own, at a call. -/
theorem calls_abs {P : Program} {f : FuncId} {args : Array Value} {w : World} {Q : Ending → World → Prop} (S : World → Prop) (hS : S w) (h : ∀ w', S w' → Calls P f args w' Q) : Calls P f args w Q := h w hS
end Go.Proofs.YtnjcaepbelgpfaaGreatDoor
