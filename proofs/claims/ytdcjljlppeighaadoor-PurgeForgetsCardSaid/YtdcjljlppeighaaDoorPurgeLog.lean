/-
  How a log of purges lies in memory, as the program has it.
-/
import Derived.Test.YtdcjljlppeighaaDoorPurgeWalkE
import Derived.StillTailTactics
import Derived.Deep.RegionHeld
namespace Go.Proofs.YtdcjljlppeighaaDoor
open Go.RowKit PurgeP

/-- A log: where its struct lies, its row of lines, its floor, its lines. -/
structure LogR where
  D : Nat
  v : Value
  floor : Int
  ls : List LnR
def LogR.abs (y : LogR) : PLog := ⟨y.floor, y.ls.map LnR.abs⟩
def LogR.foot (y : LogR) (k : Nat) : Prop := k = y.D ∨ y.v.ownBlock = some k
/-- A line's keys can be read, apart from the blocks F. -/
structure LnOK (w : World) (F : Nat → Prop) (x : LnR) : Prop where
  rd : RVF w F x.A (cS x.keys)
  cap : x.keys.length ≤ x.cap
  c63 : x.cap ≤ 9223372036854775807
theorem LnOK.kept {w w' : World} {F G : Nat → Prop} {x : LnR} (h : LnOK w F x) (hk : Kept G w w') (hG : ∀ k, G k → F k) : LnOK w' F x := ⟨h.rd.kept (hk.mono fun k _ => hG k), h.cap, h.c63⟩
theorem LnOK.mono {w : World} {F G : Nat → Prop} {x : LnR} (h : LnOK w F x) (hG : ∀ k, k < w.heap.size → G k → F k) : LnOK w G x := ⟨h.rd.mono hG, h.cap, h.c63⟩
theorem LnOK.rs {w : World} {F : Nat → Prop} {x : LnR} (h : LnOK w F x) : RS w x.A x.keys := h.rd.rv
/-- The log, and that it has nothing of the blocks X. -/
structure LogOK (w : World) (base : Nat) (X : Nat → Prop) (y : LogR) : Prop where
  dk : Blk w y.D 72 #[.int .i64 y.floor, y.v]
  rk : w.ownsRow base 54 3 y.v y.ls.length (lC y.ls)
  ks : ∀ x ∈ y.ls, LnOK w (fun k => y.foot k ∨ X k) x
  bD : base ≤ y.D
  nD : y.v.ownBlock ≠ some y.D
  xD : ¬ X y.D
  xv : ∀ k, y.v.ownBlock = some k → ¬ X k
  ok : y.abs.OK
section
variable {w w' : World} {base : Nat} {X : Nat → Prop} {y : LogR}
theorem LogOK.foot_lt (h : LogOK w base X y) {k : Nat} (hk : y.foot k) : base ≤ k ∧ k < w.heap.size := by
  rcases hk with rfl | hk
  · exact ⟨h.bD, h.dk.lt⟩
  · exact h.rk.lt k hk
theorem LogOK.foot_x (h : LogOK w base X y) {k : Nat} (hk : y.foot k) : ¬ X k := by
  rcases hk with rfl | hk
  · exact h.xD
  · exact h.xv k hk
theorem LogOK.kept (h : LogOK w base X y) (hk : Kept X w w') : LogOK w' base X y where
  dk := (hk.block _ h.dk.lt h.xD).trans h.dk
  rk := own_frame h.rk fun k hv => hk.block k (h.rk.lt k hv).2 (h.xv k hv)
  ks := fun x hx => (h.ks x hx).kept hk fun _ => .inr
  bD := h.bD
  nD := h.nD
  xD := h.xD
  xv := h.xv
  ok := h.ok
theorem LogOK.below (h : LogOK w base X y) (hb : Below w.heap.size w w') : LogOK w' base X y := h.kept (Kept.of_below hb X)
theorem LogOK.low (h : LogOK w base X y) {b : Nat} (hb : b ≤ base) : LogOK w b X y := { h with rk := own_mono h.rk hb, bD := Nat.le_trans hb h.bD }
theorem LogOK.apart {Z : Nat → Prop} (h : LogOK w base X y) (hZ : ∀ k, k < w.heap.size → Z k → X k) : LogOK w base Z y where
  dk := h.dk
  rk := h.rk
  ks := fun x hx => (h.ks x hx).mono fun k hk hz => hz.imp id (hZ k hk)
  bD := h.bD
  nD := h.nD
  xD := fun hz => h.xD (hZ _ h.dk.lt hz)
  xv := fun k hv hz => h.xv k hv (hZ _ (h.rk.lt k hv).2 hz)
  ok := h.ok
theorem LogOK.abs_len : y.abs.ls.length = y.ls.length := by simp [LogR.abs]
theorem LogOK.len_le (h : LogOK w base X y) : (y.ls.length : Int) ≤ 1099511627776 := by
  have := h.ok.now_le.2.2.2
  rwa [LogOK.abs_len] at this
end
/-- What a call makes of a log: the same struct, holding S; all else that was there stands. -/
def NextL (w : World) (base : Nat) (X : Nat → Prop) (y : LogR) (S : PLog) (w' : World) : Prop :=
  ∃ y', LogOK w' base X y' ∧ y'.abs = S ∧ y'.D = y.D ∧ Kept y.foot w w' ∧ ∀ k, y'.foot k → y.foot k ∨ w.heap.size ≤ k
theorem NextL.same_below {w w' : World} {base : Nat} {X : Nat → Prop} {y : LogR} (h : LogOK w base X y) (hb : Below w.heap.size w w') : NextL w base X y y.abs w' := ⟨y, h.below hb, rfl, rfl, Kept.of_below hb _, fun _ hk => .inl hk⟩
theorem now_calls (y : LogR) (w : World) (base : Nat) (X : Nat → Prop) (h : LogOK w base X y) :
    Calls Tryd.prog 15 #[.pointer (some ⟨y.D, 0, none⟩)] w fun e w' => e = .returned (.int .i64 y.abs.now) ∧ ∃ q, w' = w.drewN q := by
  obtain ⟨n0, n1, n2, n3⟩ := h.ok.now_le
  rw [LogOK.abs_len] at n3
  have f0 := h.ok.f0
  have f1 := h.ok.f1
  have hN : Hid (y.abs.now = y.floor + (y.ls.length : Int)) := by show _ = _; unfold PLog.now; rw [LogOK.abs_len]; rfl
  obtain ⟨A, c, hv, _, _⟩ := own_form h.rk
  have dk := h.dk
  rw [hv] at dk
  have c0 : w.cell? ⟨y.D, 0, none⟩ = some (.int .i64 y.floor) := dk.at_ rfl
  have c1 : w.cell? ⟨y.D, 1, none⟩ = some (.slice A y.ls.length c) := dk.at_ rfl
  have g0 : 0 ≤ y.floor := f0
  have g1 : y.floor ≤ 1099511627776 := f1
  have hsum : IntKind.i64.wrap (y.floor + (y.ls.length : Int)) = y.floor + (y.ls.length : Int) := by rw [IntKind.wrap_i64]; omega
  clear h hv dk f0 f1 n0 n1 n2
  go_enter Tryd.func15, Tryd.ntmps15
  go_wp2_with fail
  go_quiet (fail)
  go_wp2
  go_ret
  exact ⟨by rw [hN.out]; rfl, _, rfl⟩
theorem floor_calls (y : LogR) (w : World) (base : Nat) (X : Nat → Prop) (h : LogOK w base X y) :
    Calls Tryd.prog 17 #[.pointer (some ⟨y.D, 0, none⟩)] w fun e w' => e = .returned (.int .i64 y.floor) ∧ w = w' := by
  have c0 : w.cell? ⟨y.D, 0, none⟩ = some (.int .i64 y.floor) := h.dk.at_ rfl
  go_enter Tryd.func17, Tryd.ntmps17
  go_wp2
  go_ret
  exact ⟨rfl, rfl⟩
end Go.Proofs.YtdcjljlppeighaaDoor
