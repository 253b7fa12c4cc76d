/-
  The walks of package disk's small methods: has, Waits, Size, On; of each on no disk.
-/
import Derived.Test.YtendnkklbeiegaaGreatDoorMAE
import Derived.Test.YtendnkklbeiegaaGreatDoorGrow
namespace Go.Proofs.YtendnkklbeiegaaGreatDoor
open Go.RowKit DiskP

/-- A pointer to a disk. -/
def dP (y : Lay) : Value := .pointer (some ⟨y.D, 0, none⟩)
section
variable {w : World} {base : Nat} {y : Lay}
theorem DiskOK.c0 (h : DiskOK w base y) : w.cell? ⟨y.D, 0, none⟩ = some (.int .i64 (y.size : Int)) := h.dk.at_ rfl
theorem DiskOK.c1 (h : DiskOK w base y) : w.cell? ⟨y.D, 1, none⟩ = some (.slice (some ⟨y.L, 0, none⟩) y.lp.length y.lp.length) := h.dk.at_ rfl
theorem DiskOK.c2 (h : DiskOK w base y) : w.cell? ⟨y.D, 2, none⟩ = some (.slice (some ⟨y.T, 0, none⟩) y.lp.length y.lp.length) := h.dk.at_ rfl
theorem DiskOK.c3 (h : DiskOK w base y) : w.cell? ⟨y.D, 3, none⟩ = some y.wv := h.dk.at_ rfl
theorem DiskOK.c4 (h : DiskOK w base y) : w.cell? ⟨y.D, 4, none⟩ = some (.bool y.off) := h.dk.at_ rfl
end
def hasB (y : Lay) (n : Int) : Bool := decide (0 ≤ n) && decide (n < y.lp.length)

theorem has_calls (y : Lay) (n : Int) (w : World) (base : Nat) (h : DiskOK w base y) :
    Calls Tryz.prog 41 #[.pointer (some ⟨y.D, 0, none⟩), .int .i64 n] w fun e w' => e = .returned (.bool (hasB y n)) ∧ w = w' := by
  have c1 := h.c1
  by_cases h0 : 0 ≤ n
  · have d0 : decide (0 ≤ n) = true := by simpa using h0
    have HB : Hid (hasB y n = decide (n < y.lp.length)) := by show _ = _; unfold hasB; rw [d0]; rfl
    go_enter Tryz.func41, Tryz.ntmps41
    go_wp2
    go_ret
    exact ⟨by rw [HB.out]; rfl, rfl⟩
  · have d0 : decide (0 ≤ n) = false := by simpa using h0
    have HB : Hid (hasB y n = false) := by show _ = _; unfold hasB; rw [d0]; rfl
    go_enter Tryz.func41, Tryz.ntmps41
    go_wp2
    go_ret
    exact ⟨by rw [HB.out]; rfl, rfl⟩

theorem size_calls (y : Lay) (w : World) (base : Nat) (h : DiskOK w base y) :
    Calls Tryz.prog 27 #[.pointer (some ⟨y.D, 0, none⟩)] w fun e w' => e = .returned (.tuple #[.int .i64 (y.lp.length : Int), .int .i64 (y.size : Int)]) ∧ ∃ n, w' = w.drewN n := by
  have c0 := h.c0
  have c1 := h.c1
  go_enter Tryz.func27, Tryz.ntmps27
  go_wp2
  go_quiet (fail)
  go_wp2
  go_ret2
  exact ⟨rfl, _, rfl⟩

/-- Only the struct's cells are others. -/
theorem DiskOK.setD {w w' : World} {base : Nat} {y y' : Lay} (h : DiskOK w base y) (hd : Blk w' y.D 85 y'.dcells) (hb : ∀ k, k ≠ y.D → y.foot k → w'.heap[k]? = w.heap[k]?)
    (hy : y' = { y with off := y'.off }) : DiskOK w' base y' := by
  have nD : ∀ {k : Nat} {t : TypeId} {cs : Array Value}, t ≠ 85 → Blk w k t cs → k ≠ y.D := by
    intro k t cs ht hk e
    subst e
    have h1 := h.dk
    unfold Blk at hk h1
    rw [h1] at hk
    injection hk with hk
    injection hk with _ hk
    exact ht hk.symm
  have nO : ∀ {k n size : Nat} {e : TypeId} {v : Value} {xs : List Value}, e ≠ 85 → w.ownsRow base e size v n xs → v.ownBlock = some k → k ≠ y.D := by
    intro k n size e v xs he ho hk
    rcases ho.2 with ⟨rfl, _⟩ | ⟨g, cap, cur, rfl, _, hg, _⟩
    · cases hk
    · injection hk with hk
      subst hk
      exact nD he hg
  rw [hy]
  rw [hy] at hd
  exact { h with
    dk := hd
    lk := (hb _ (nD (by decide) h.lk) (.inr (.inl rfl))).trans h.lk
    tk := (hb _ (nD (by decide) h.tk) (.inr (.inr (.inl rfl)))).trans h.tk
    wk := own_frame h.wk fun k hk => hb k (nO (by decide) h.wk hk) (.inr (.inr (.inr (.inl hk))))
    ck := fun c hc => (hb c (nD (by decide) (h.ck c hc)) (.inr (.inr (.inr (.inr (.inl hc)))))).trans (h.ck c hc)
    bk := fun c hc => (h.bk c hc).frame fun k hk => hb k (by
      have := h.bk c hc
      cases hs : (y.sect c).bytes with
      | none => rw [hs] at this; unfold BytesOK at this; rw [this] at hk; cases hk
      | some l => rw [hs] at this; exact nO (by decide) this.2 hk) (.inr (.inr (.inr (.inr (.inr ⟨c, hc, hk⟩))))) }

theorem on_calls (y : Lay) (w : World) (base : Nat) (h : DiskOK w base y) :
    Calls Tryz.prog 8 #[.pointer (some ⟨y.D, 0, none⟩)] w fun e w' => e = .returned (.tuple #[]) ∧ DiskOK w' base { y with off := false } ∧ Kept y.foot w w' := by
  have c4 := h.c4
  have f4 := h.dk.frozen 4
  go_enter Tryz.func8, Tryz.ntmps8
  go_wp2
  go_end0
  refine ⟨rfl, ?_, (Kept.refl _ _).setCell (.inl (.inl rfl)) _⟩
  exact h.setD (y' := { y with off := false }) (h.dk.set_ 4 (.bool false)) (fun k hk _ => heap_setCell_other _ _ _ _ hk) rfl
end Go.Proofs.YtendnkklbeiegaaGreatDoor
