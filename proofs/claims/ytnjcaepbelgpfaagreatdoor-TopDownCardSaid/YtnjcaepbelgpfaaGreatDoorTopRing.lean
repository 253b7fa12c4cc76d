/-
  A ring that is made: what it holds while names are added.
-/
import Derived.Test.YtnjcaepbelgpfaaGreatDoorTopStd
import Derived.Test.YtnjcaepbelgpfaaGreatDoorTopOwners
import Derived.Test.YtnjcaepbelgpfaaGreatDoorStep
namespace Go.Proofs.YtnjcaepbelgpfaaGreatDoor
open Go.RowKit Go.Maps Go.WideMaps TopP Go.Shelf

/-- A ring: the names ks, the points L; all that it holds lies in blocks from its own on. -/
def RingW (w : World) (r : Nat) (ks : List Txt) (L : List Pt) : Prop :=
  ∃ mb v F, Blk w r 59 #[.int .i64 16, .map (some mb), v] ∧ MapV w 9 mb ks.length F ∧ (∀ t, (F (sV t)).isSome = decide (t ∈ ks)) ∧ w.ownsRow r 64 2 v L.length (flK pC L) ∧ r < mb ∧ ∀ g, v.ownBlock = some g → g ≠ r ∧ g ≠ mb
theorem RingW.reads {w : World} {r : Nat} {ks : List Txt} {L : List Pt} (h : RingW w r ks L) : RingR w r ks.length L := by
  obtain ⟨mb, v, F, h1, h2, _, h4, _⟩ := h
  obtain ⟨A, c, rfl, _⟩ := own_form h4
  exact ⟨mb, A, c, F, h1, h2, by
    intro hne
    rcases h4.2 with ⟨hv, h0⟩ | ⟨g, cap, cur, hv, _, hh, _, _, _, h6⟩
    · have : L = [] := List.eq_nil_of_length_eq_zero h0
      subst this
      exact absurd rfl hne
    · injection hv with hA
      subst hA
      refine ⟨g, 0, rfl, lt_of_block hh, fun j u hu => ?_⟩
      have := h4.cells (g := g) rfl j u hu
      rw [add_zero_off] at this
      rwa [Nat.zero_add]⟩
/-- What the loop that adds a name's points holds. -/
structure AddW (w wr : World) (r mb m : Nat) (F : Value → Option Value) (L : List Pt) (t : Txt) (k : Nat) (v : Value) (L2 : List Pt) : Prop where
  blk : Blk wr r 59 #[.int .i64 16, .map (some mb), v]
  map : MapV wr 9 mb m F
  own : wr.ownsRow r 64 2 v L2.length (flK pC L2)
  ne : ∀ g, v.ownBlock = some g → g ≠ r ∧ g ≠ mb
  rm : r < mb
  bel : Below r w wr
  len : L2.length = L.length + k
  mem : ∀ x, x ∈ L2.map (·.2) ↔ x ∈ L.map (·.2) ∨ (0 < k ∧ x = t)
theorem AddW.below {w wr w' : World} {r mb m : Nat} {F : Value → Option Value} {L : List Pt} {t : Txt} {k : Nat} {v : Value} {L2 : List Pt} (h : AddW w wr r mb m F L t k v L2) (d : Below wr.heap.size wr w') : AddW w w' r mb m F L t k v L2 :=
  ⟨h.blk.below d h.blk.lt, h.map.below d h.map.lt, own_below h.own d (fun j hj => (h.own.lt j hj).2), h.ne, h.rm, h.bel.trans (d.mono (Nat.le_of_lt h.blk.lt)), h.len, h.mem⟩
theorem AddW.stored {w wr w2 : World} {r mb m m' : Nat} {F F' : Value → Option Value} {L : List Pt} {t : Txt} {k : Nat} {v : Value} {L2 : List Pt} (h : AddW w wr r mb m F L t k v L2) (m2 : MapV w2 9 mb m' F') (g2 : wr.grownBy w2 (some mb)) : AddW w w2 r mb m' F' L t k v L2 :=
  ⟨(g2.block r h.blk.lt fun q => by have := Option.some.inj q; have := h.rm; omega).trans h.blk, m2, own_frame h.own fun j hj => g2.block j (h.own.lt j hj).2 fun q => (h.ne j hj).2 (Option.some.inj q), h.ne, h.rm, Below.grown h.bel g2 (Nat.le_of_lt h.blk.lt) fun j hj => by have := Option.some.inj hj; have := h.rm; omega, h.len, h.mem⟩
/-- A point is put behind: the row, then the ring's field. -/
theorem AddW.more {w wr w1 : World} {r mb m : Nat} {F : Value → Option Value} {L : List Pt} {t : Txt} {k : Nat} {v v' : Value} {L2 : List Pt} (h : AddW w wr r mb m F L t k v L2) (x : Int)
    (o : w1.ownsRow r 64 2 v' (L2.length + 1) (flK pC L2 ++ pC (x, t))) (g1 : wr.grownBy w1 v.ownBlock) (hv : v'.ownBlock = v.ownBlock ∨ v'.ownBlock = some wr.heap.size) :
    AddW w (w1.setCell ⟨r, 2, none⟩ v') r mb m F L t (k + 1) v' (L2 ++ [(x, t)]) := by
  have hml := h.map.lt
  have hrl := h.blk.lt
  have hne : ∀ g, v'.ownBlock = some g → g ≠ r ∧ g ≠ mb := fun g hg => by
    rcases hv with e | e
    · exact h.ne g (e ▸ hg)
    · rw [e] at hg; have := Option.some.inj hg; exact ⟨by omega, by omega⟩
  have b1 : Blk w1 r 59 #[.int .i64 16, .map (some mb), v] := (g1.block r hrl fun q => (h.ne r q.symm).1 rfl).trans h.blk
  have m1 := h.map.kept g1 fun q => (h.ne mb q.symm).2 rfl
  refine ⟨b1.set_ 2 v', m1.setCell (fun q => by have := h.rm; simp at q; omega) v', ?_, hne, h.rm, ?_, ?_, fun y => ?_⟩
  · have hl : (L2 ++ [(x, t)]).length = L2.length + 1 := by simp
    rw [hl, flK_append, flK_one]
    exact own_frame o fun j hj => heap_setCell_other w1 ⟨r, 2, none⟩ j v' (hne j hj).1
  · exact (Below.grown h.bel g1 (Nat.le_trans (Nat.le_of_lt hrl) (Nat.le_refl _)) fun j hj => (h.own.lt j hj).1).setCell (Nat.le_refl _) v'
  · rw [List.length_append, h.len]; rfl
  · rw [List.map_append, List.mem_append, h.mem y]
    simp only [List.map_cons, List.map_nil, List.mem_singleton]
    constructor
    · rintro ((h1 | ⟨_, h1⟩) | h1)
      · exact .inl h1
      · exact .inr ⟨by omega, h1⟩
      · exact .inr ⟨by omega, h1⟩
    · rintro (h1 | ⟨_, h1⟩)
      · exact .inl (.inl h1)
      · exact .inr h1
/-- Behind the sort. -/
theorem AddW.sorted {w wr w1 : World} {r mb m : Nat} {F : Value → Option Value} {L : List Pt} {t : Txt} {k g cap : Nat} {L2 L3 : List Pt} (h : AddW w wr r mb m F L t k (.slice (some ⟨g, 0, none⟩) L2.length cap) L2)
    (hp : L3.Perm L2) (o : w1.ownsRow r 64 2 (.slice (some ⟨g, 0, none⟩) L2.length cap) L2.length (flK pC L3)) (g1 : wr.grownBy w1 (some g)) : AddW w w1 r mb m F L t k (.slice (some ⟨g, 0, none⟩) L2.length cap) L3 := by
  have hne := h.ne g rfl
  refine ⟨(g1.block r h.blk.lt fun q => hne.1 (Option.some.inj q).symm).trans h.blk, h.map.kept g1 fun q => hne.2 (Option.some.inj q).symm, by rw [hp.length_eq]; exact o, h.ne, h.rm, Below.grown h.bel g1 (Nat.le_of_lt h.blk.lt) fun j hj => ?_, by rw [hp.length_eq, h.len], fun x => ?_⟩
  · have := Option.some.inj hj
    subst this
    exact (h.own.lt _ rfl).1
  · rw [(hp.map (·.2)).mem_iff, h.mem x]
end Go.Proofs.YtnjcaepbelgpfaaGreatDoor
