/-
  How a log of purges lies in memory, as the document has it; Now, some, under.
-/
import Derived.Test.YtdcjljlppeighaaDoorPurgeForget
import Derived.Test.YtdcjljlppeighaaDoorPurgeLast
namespace Go.Proofs.YtdcjljlppeighaaDoor
open Go.RowKit PurgeP

/-- A log: where its struct lies, its row of lines, its floor, its lines. -/
structure RefR where
  M : Nat
  A : Option Addr
  cap : Nat
  floor : Int
  ls : List LnR
def RefR.abs (z : RefR) : PLog := ⟨z.floor, z.ls.map LnR.abs⟩
/-- The log, and that it has nothing of the blocks F. -/
structure RefOK (w : World) (F : Nat → Prop) (z : RefR) : Prop where
  bk : Blk w z.M 28 #[.slice z.A z.ls.length z.cap, .int .i64 z.floor]
  le : z.ls.length ≤ z.cap
  c63 : z.cap ≤ 9223372036854775807
  rd : RVF w (fun k => k = z.M ∨ F k) z.A (lC z.ls)
  ks : ∀ x ∈ z.ls, LnOK w (fun k => k = z.M ∨ F k) x
  fM : ¬ F z.M
  ok : z.abs.OK
theorem RefR.abs_len {z : RefR} : z.abs.ls.length = z.ls.length := by simp [RefR.abs]
section
variable {w w' : World} {F G : Nat → Prop} {z : RefR}
theorem RefOK.next (h : RefOK w F z) (hk : Kept F w w') (hG : ∀ k, k < w.heap.size → G k → F k) : RefOK w' G z where
  bk := (hk.block _ h.bk.lt h.fM).trans h.bk
  le := h.le
  c63 := h.c63
  rd := h.rd.next (hk.mono fun _ _ hf => .inr hf) fun k hk hg => hg.imp id (hG k hk)
  ks := fun x hx => ⟨(h.ks x hx).rd.next (hk.mono fun _ _ hf => .inr hf) fun k hk hg => hg.imp id (hG k hk), (h.ks x hx).cap, (h.ks x hx).c63⟩
  fM := fun hg => h.fM (hG _ h.bk.lt hg)
  ok := h.ok
theorem RefOK.below (h : RefOK w F z) (hb : Below w.heap.size w w') : RefOK w' F z := h.next (Kept.of_below hb F) fun _ _ hg => hg
theorem RefOK.len_le (h : RefOK w F z) : (z.ls.length : Int) ≤ 1099511627776 := by
  have := h.ok.now_le.2.2.2
  rwa [RefR.abs_len] at this
/-- A line's three cells. -/
theorem RefOK.line_at (h : RefOK w F z) {k : Nat} {x : LnR} (hk : z.ls[k]? = some x) : ∃ b off, z.A = some ⟨b, off, none⟩ ∧ b < w.heap.size ∧
    w.cell? ⟨b, off + k * 3, none⟩ = some (.int .i64 x.no) ∧ w.cell? ⟨b, off + k * 3 + 1, none⟩ = some (.slice x.A x.keys.length x.cap) ∧ w.cell? ⟨b, off + k * 3 + 2, none⟩ = some (.bool x.hard) := by
  have hlt : k < z.ls.length := (List.getElem?_eq_some_iff.1 hk).1
  have a0 := lC_get z.ls k 0 (by omega)
  have a1 := lC_get z.ls k 1 (by omega)
  have a2 := lC_get z.ls k 2 (by omega)
  rw [hk] at a0 a1 a2
  obtain ⟨b, off, e, h1, _, h2⟩ := h.rd (by intro e; have := congrArg List.length e; rw [lC_len, List.length_nil] at this; omega)
  refine ⟨b, off, e, h1, h2 _ _ a0, ?_, ?_⟩
  · rw [Nat.add_assoc]; exact h2 _ _ a1
  · rw [Nat.add_assoc]; exact h2 _ _ a2
end
/-- What a call makes of a log: the same struct, holding S; all else that was there stands. -/
def NextR (w : World) (F : Nat → Prop) (z : RefR) (S : PLog) (w' : World) : Prop :=
  ∃ z', RefOK w' F z' ∧ z'.abs = S ∧ z'.M = z.M ∧ Kept (fun k => k = z.M) w w'
theorem NextR.same_below {w w' : World} {F : Nat → Prop} {z : RefR} (h : RefOK w F z) (hb : Below w.heap.size w w') : NextR w F z z.abs w' := ⟨z, h.below hb, rfl, rfl, Kept.of_below hb _⟩
theorem rnow_calls (z : RefR) (w : World) (F : Nat → Prop) (h : RefOK w F z) :
    Calls Tryd.prog 16 #[.pointer (some ⟨z.M, 0, none⟩)] w fun e w' => e = .returned (.int .i64 z.abs.now) ∧ ∃ q, w' = w.drewN q := by
  have n3 := h.len_le
  have f0 := h.ok.f0
  have f1 := h.ok.f1
  have hN : Hid (z.abs.now = z.floor + (z.ls.length : Int)) := by show _ = _; unfold PLog.now; rw [RefR.abs_len]; rfl
  have c0 : w.cell? ⟨z.M, 0, none⟩ = some (.slice z.A z.ls.length z.cap) := h.bk.at_ rfl
  have c1 : w.cell? ⟨z.M, 1, none⟩ = some (.int .i64 z.floor) := h.bk.at_ rfl
  have g0 : 0 ≤ z.floor := f0
  have g1 : z.floor ≤ 1099511627776 := f1
  have hsum : IntKind.i64.wrap (z.floor + (z.ls.length : Int)) = z.floor + (z.ls.length : Int) := by rw [IntKind.wrap_i64]; omega
  clear h f0 f1
  go_enter Tryd.func16, Tryd.ntmps16
  go_wp2_with fail
  go_quiet (fail)
  go_wp2
  go_ret
  exact ⟨by rw [hN.out]; rfl, _, rfl⟩
theorem rsome_calls (ks keys : List Txt) (n : Nat) (hn : ks.length = n) (m : Nat) (hm : keys.length = m) (B : Option Addr) (cb : Nat) (A : Option Addr) (cap : Nat) (w : World) (hK : RS w B ks) (hkl : n ≤ 9223372036854775807) (hR : RS w A keys) (hl : m ≤ 9223372036854775807) :
    Calls Tryd.prog 46 #[.slice B n cb, .slice A m cap] w fun e w' => e = .returned (.bool (anyK ks keys)) ∧ w = w' := by
  subst hn
  have PC := fun k => rhas_calls keys m hm k A cap w hR hl
  clear hR
  go_enter Tryd.func46, Tryd.ntmps46
  go_wp2
  go_loop [5] (fun i => ∃ k : Nat, k ≤ ks.length ∧ i = .int .i64 k ∧ anyK (ks.take k) keys = false) (fun i => ks.length - (intOf i).toNat)
  case atStart => exact ⟨0, by omega, rfl, rfl⟩
  case round =>
    obtain ⟨k, hk, rfl, hp⟩ := hrel
    by_cases hlt : k < ks.length
    · have hdec : decide ((k : Int) < (ks.length : Int)) = true := decide_eq_true (by omega)
      have hdec' : decide (k < ks.length) = true := decide_eq_true hlt
      obtain ⟨b, off, rfl, hb, hcc⟩ := hK.at_ hlt
      have HT := Lib.hid (anyK_succ ks keys k hlt)
      have HA := Lib.hid (anyK_at ks keys k hlt)
      have HP := Lib.hid hp
      have PCk := PC (ks.getD k [])
      clear hp PC
      generalize ks.getD k [] = c at *
      cases hq : hasB keys c
      · rw [hq] at PCk
        have HR : Hid (anyK (ks.take (k + 1)) keys = false) := by show _ = _; rw [HT.out, HP.out, hq]; rfl
        clear hq
        go_wp2_with fail
        refine PCk.mono ?_
        rintro e w' ⟨rfl, rfl⟩
        go_wp2
        go_round
        case rel => exact ⟨k + 1, by omega, by go_num, HR.out⟩
        case measure => simp [intOf]; omega
      · rw [hq] at PCk
        have HF : Hid (anyK ks keys = true) := HA.out hq
        clear hq
        go_wp2_with fail
        refine PCk.mono ?_
        rintro e w' ⟨rfl, rfl⟩
        go_wp2
        go_ret
        exact ⟨by rw [HF.out]; rfl, rfl⟩
    · obtain rfl : k = ks.length := by omega
      rw [List.take_length] at hp
      have HF := Lib.hid hp
      clear hp PC
      go_wp2
      go_ret
      exact ⟨by rw [HF.out]; rfl, rfl⟩
theorem runder_calls (z : RefR) (behind upTo : Int) (w : World) (F : Nat → Prop) (h : RefOK w F z) :
    Calls Tryd.prog 45 #[.pointer (some ⟨z.M, 0, none⟩), .int .i64 behind, .int .i64 upTo] w fun e w' => e = .returned (.int .i64 (under z.floor behind upTo)) ∧ w = w' := by
  have c1 : w.cell? ⟨z.M, 1, none⟩ = some (.int .i64 z.floor) := h.bk.at_ rfl
  have HU : Hid (under z.floor behind upTo = if min upTo z.floor ≤ behind ∨ min upTo z.floor < 1 then 0 else min upTo z.floor) := rfl
  clear h
  generalize z.floor = f at *
  go_enter Tryd.func45, Tryd.ntmps45
  by_cases h1 : f < upTo
  · have d1 : decide (f < upTo) = true := decide_eq_true h1
    rw [show min upTo f = f by omega] at HU
    by_cases h2 : f ≤ behind
    · have d2 : decide (f ≤ behind) = true := decide_eq_true h2
      rw [if_pos (.inl h2)] at HU
      go_wp2
      go_ret
      exact ⟨by rw [HU.out]; rfl, rfl⟩
    · have d2 : decide (f ≤ behind) = false := decide_eq_false h2
      by_cases h3 : f < 1
      · have d3 : decide (f < 1) = true := decide_eq_true h3
        rw [if_pos (.inr h3)] at HU
        go_wp2
        go_ret
        exact ⟨by rw [HU.out]; rfl, rfl⟩
      · have d3 : decide (f < 1) = false := decide_eq_false h3
        rw [if_neg (by omega)] at HU
        go_wp2
        go_ret
        exact ⟨by rw [HU.out]; rfl, rfl⟩
  · have d1 : decide (f < upTo) = false := decide_eq_false h1
    rw [show min upTo f = upTo by omega] at HU
    by_cases h2 : upTo ≤ behind
    · have d2 : decide (upTo ≤ behind) = true := decide_eq_true h2
      rw [if_pos (.inl h2)] at HU
      go_wp2
      go_ret
      exact ⟨by rw [HU.out]; rfl, rfl⟩
    · have d2 : decide (upTo ≤ behind) = false := decide_eq_false h2
      by_cases h3 : upTo < 1
      · have d3 : decide (upTo < 1) = true := decide_eq_true h3
        rw [if_pos (.inr h3)] at HU
        go_wp2
        go_ret
        exact ⟨by rw [HU.out]; rfl, rfl⟩
      · have d3 : decide (upTo < 1) = false := decide_eq_false h3
        rw [if_neg (by omega)] at HU
        go_wp2
        go_ret
        exact ⟨by rw [HU.out]; rfl, rfl⟩
end Go.Proofs.YtdcjljlppeighaaDoor
