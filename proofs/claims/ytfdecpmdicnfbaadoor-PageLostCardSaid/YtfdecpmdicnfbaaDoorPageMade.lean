/-
  The walk of the statements' made: a small disk that was told all, or none.
-/
import Derived.Test.YtfdecpmdicnfbaaDoorPageWalkI
import Derived.Test.YtfdecpmdicnfbaaDoorPageOps
import Derived.Deep.RegionHeld
namespace Go.Proofs.YtfdecpmdicnfbaaDoor
open Go.RowKit DiskP SumP PageP

theorem DiskOK.low {w : World} {base base' : Nat} {y : Lay} (h : DiskOK w base y) (hb : base' ≤ base) : DiskOK w base' y where
  dk := h.dk
  lk := h.lk
  tk := h.tk
  wk := own_mono h.wk hb
  ck := h.ck
  bk := fun c hc => by
    have := h.bk c hc
    cases hs : (y.sect c).bytes with
    | none => rw [hs] at this; exact this
    | some l => rw [hs] at this; exact ⟨this.1, own_mono this.2 hb⟩
  bD := Nat.le_trans hb h.bD
  bL := Nat.le_trans hb h.bL
  bT := Nat.le_trans hb h.bT
  bc := fun c hc => Nat.le_trans hb (h.bc c hc)
  n1 := h.n1
  n2 := h.n2
  n3 := h.n3
  nb := h.nb
  lt := h.lt
  wr := h.wr
  s1 := h.s1
  s2 := h.s2
  l1 := h.l1
  l2 := h.l2
/-- A disk goes on: as many sectors, of the same size; not many more writes wait. -/
structure Goes (d S : Dsk) (m : Nat) : Prop where
  last : S.last.length = d.last.length
  size : S.size = d.size
  wait : S.wait.length ≤ d.wait.length + m
theorem Goes.same (d : Dsk) (m : Nat) : Goes d d m := ⟨rfl, rfl, Nat.le_add_right _ _⟩
theorem Goes.mono {d S : Dsk} {m n : Nat} (h : Goes d S m) (hm : m ≤ n) : Goes d S n := ⟨h.last, h.size, Nat.le_trans h.wait (by omega)⟩
theorem goes_put (d : Dsk) (at_ : Int) (kind : UInt8) (mark : Int) (b : List UInt8) : Goes d (putS d at_ kind mark b) d.last.length := by
  unfold putS
  split
  · rename_i h
    refine ⟨rfl, rfl, ?_⟩
    unfold putE at h
    split at h
    · cases h
    · rename_i h1
      split at h
      · cases h
      · rename_i h2
        have hh : d.has at_ = true := by
          cases hx : d.has at_
          · exact absurd (.inl hx) h1
          · rfl
        unfold Dsk.has at hh
        simp only [Bool.and_eq_true, decide_eq_true_eq] at hh
        show (d.wait ++ secs _ _ _ _ _ _).length ≤ _
        rw [List.length_append]
        have : (secs d.size at_.toNat kind mark b (need d.size b.length).toNat).length = (need d.size b.length).toNat := by simp [secs]
        rw [this]
        omega
  · exact Goes.same _ _
theorem goes_write (d : Dsk) (n : Int) (l : List UInt8) : Goes d (d.writeS n l) 1 := by
  unfold Dsk.writeS
  split
  · exact ⟨rfl, rfl, by simp [Dsk.write]⟩
  · exact Goes.same _ _
theorem goes_flush (d : Dsk) : Goes d d.flushS 0 := by
  unfold DiskP.Dsk.flushS
  split
  · exact Goes.same _ _
  · exact ⟨applyW_length _ _, rfl, by simp [Dsk.flush]⟩
theorem goes_cut (d : Dsk) (keep : List Bool) (torn : Int) : Goes d (d.cut keep torn) 0 := by
  unfold Dsk.cut
  split
  · exact Goes.same _ _
  · exact ⟨applyW_length _ _, rfl, by simp⟩
theorem goes_on (d : Dsk) : Goes d d.on 0 := ⟨rfl, rfl, Nat.le_refl _⟩
theorem goes_rot (d : Dsk) (n bit : Int) : Goes d (d.rotS n bit) 0 := by
  unfold Dsk.rotS
  split
  · unfold Dsk.rotted
    cases lastIdx d.wait n.toNat with
    | some i => exact ⟨rfl, rfl, by simp⟩
    | none => exact ⟨by simp, rfl, Nat.le_refl _⟩
  · exact Goes.same _ _
/-- A disk in the midst of what it is told. -/
def Mading (w1 : World) (D n m k : Nat) (wr : World) : Prop :=
  ∃ y, DiskOK wr w1.heap.size y ∧ y.D = D ∧ y.lp.length = n ∧ y.size = m ∧ y.wp.length ≤ 12 * k ∧ Below w1.heap.size w1 wr
theorem Mading.next {w1 w2 w3 : World} {y : Lay} {D n m k : Nat} {S : Dsk} (h : DiskOK w2 w1.heap.size y) (hD : y.D = D) (hn : y.lp.length = n) (hm : y.size = m) (hk : y.wp.length ≤ 12 * k) (bel : Below w1.heap.size w1 w2)
    (N : Next w2 w1.heap.size y S w3) (g : Goes y.abs S 12) : Mading w1 D n m (k + 1) w3 := by
  obtain ⟨y', h', a', d', k', f'⟩ := N
  have hl : y.abs.last.length = y.lp.length := by simp [Lay.abs]
  have hl' : y'.abs.last.length = y'.lp.length := by simp [Lay.abs]
  have hw : y.wp.length = y.abs.wait.length := wlen y
  have hw' : y'.wp.length = y'.abs.wait.length := wlen y'
  refine ⟨y', h', d'.trans hD, ?_, ?_, ?_, bel.trans (k'.below (fun j _ hj => (h.foot_lt hj).1) bel.size)⟩
  · rw [← hl', a', g.last, hl, hn]
  · have : y'.abs.size = y'.size := rfl
    rw [← this, a', g.size]
    exact hm
  · have := g.wait
    rw [hw', a']
    omega
/-- What made gives back. -/
def RetMade (w : World) (z : CaseR) (e : Ending) (w' : World) : Prop :=
  (e = .returned (.pointer none) ∧ Below w.heap.size w w') ∨
    ∃ y, e = .returned (.pointer (some ⟨y.D, 0, none⟩)) ∧ DiskOK w' w.heap.size y ∧ (y.lp.length : Int) = z.sectors ∧ (y.size : Int) = z.size ∧ y.lp.length ≤ 12 ∧ y.size ≤ 64 ∧ y.wp.length ≤ 400 ∧ Below w.heap.size w w'
end Go.Proofs.YtfdecpmdicnfbaaDoor
