/-
  The statements' run: both logs, behind some calls.
-/
import Derived.Test.YtdcjljlppeighaaDoorPurgeDo
import Derived.Test.YtdcjljlppeighaaDoorPurgeAwake
namespace Go.Proofs.YtdcjljlppeighaaDoor
open Go.RowKit PurgeP

theorem rlog_new (w : World) (F : Nat → Prop) (hF : ¬ F w.heap.size) : RefOK (w.alloc (.cells #[.slice none 0 0, .int .i64 0] 28)) F ⟨w.heap.size, none, 0, 0, []⟩ :=
  ⟨Blk.new _ _ _, Nat.le_refl _, by show (0 : Nat) ≤ _; omega, RVF.nil, fun x hx => by simp at hx, hF, PLog.OK.new⟩
theorem both_new {w : World} {base : Nat} {y : LogR} (h : LogOK w base noX y) (ha : y.abs = PLog.new) (hb : base ≤ w.heap.size) : BothOK (w.alloc (.cells #[.slice none 0 0, .int .i64 0] 28)) base y ⟨w.heap.size, none, 0, 0, []⟩ PLog.new := by
  have b : Below w.heap.size w (w.alloc (.cells #[.slice none 0 0, .int .i64 0] 28)) := (Below.refl _ _).alloc (Nat.le_refl _) _
  exact ⟨(h.apart (fun k hk hz => by have hz : k = w.heap.size := hz; omega)).below b, rlog_new w y.foot (fun hf => by have := (h.foot_lt hf).2; omega), ha, rfl, hb, Nat.le_trans hb b.size⟩
theorem runP_succ {l : List ActR} {k : Nat} {a : ActR} (ha : l[k]? = some a) : runP (l.take (k + 1)) = stepP (runP (l.take k)) a := by
  obtain ⟨hlt, rfl⟩ := List.getElem?_eq_some_iff.1 ha
  unfold runP
  rw [List.take_succ_eq_append_getElem hlt, List.foldl_append]
  rfl
/-- What run gives: no log, or both. -/
def RetRunNo (w : World) (e : Ending) (w' : World) : Prop := ∃ M, e = .returned (.tuple #[.pointer none, .pointer (some ⟨M, 0, none⟩)]) ∧ Below w.heap.size w w'
def RetRun (w : World) (base : Nat) (l : List ActR) (e : Ending) (w' : World) : Prop := ∃ y z, e = .returned (.tuple #[.pointer (some ⟨y.D, 0, none⟩), .pointer (some ⟨z.M, 0, none⟩)]) ∧ BothOK w' base y z (runP l) ∧ Below base w w'
theorem run_no (l : List ActR) (A : Option Addr) (cap : Nat) (w : World) (hl : l.length ≤ 9223372036854775807) (hR : RV w A (l.flatMap ActR.cells)) (hx : ∀ o ∈ l, ActOK w o) (hg : greatA l = true) :
    Calls Tryd.prog 20 #[.slice A l.length cap] w (RetRunNo w) := by
  go_enter Tryd.func20, Tryd.ntmps20
  go_wp2_with fail
  refine (fresh_calls w).mono ?_
  rintro e w1 ⟨y, rfl, -, -, b1⟩
  have b2 : ∀ o, Below w.heap.size w (w1.alloc o) := fun o => b1.alloc b1.size o
  have GC := fun o => great_calls l A cap w (w1.alloc o) (b2 o) hl hR hx
  rw [hg] at GC
  clear hg hx hR
  go_wp2_with fail
  refine (GC _).mono ?_
  rintro e w3 ⟨rfl, b3⟩
  have B3 := (b2 _).trans (b3.mono (b2 _).size)
  clear GC b3
  go_wp2_with fail
  go_ret2
  exact ⟨_, rfl, B3⟩
set_option maxHeartbeats 1600000 in
set_option maxRecDepth 100000 in
theorem run_yes (l : List ActR) (A : Option Addr) (cap : Nat) (w : World) (hl : l.length ≤ 9223372036854775807) (hR : RV w A (l.flatMap ActR.cells)) (hx : ∀ o ∈ l, ActOK w o) (hg : greatA l = false) :
    Calls Tryd.prog 20 #[.slice A l.length cap] w (RetRun w w.heap.size l) := by
  obtain ⟨hg1, hg2⟩ := great_acts hg
  go_enter Tryd.func20, Tryd.ntmps20
  go_wp2_with fail
  refine (fresh_calls w).mono ?_
  rintro e w1 ⟨y0, rfl, hy0, ha0, b1⟩
  obtain ⟨w2, hw2⟩ : ∃ w2, w1.alloc (.cells #[.slice none 0 0, .int .i64 0] 28) = w2 := ⟨_, rfl⟩
  have BN := both_new hy0 ha0 b1.size
  rw [hw2] at BN
  have b2 : Below w.heap.size w w2 := by rw [← hw2]; exact b1.alloc b1.size _
  have HW2 := Lib.hid hw2
  have GC := great_calls l A cap w w2 b2 hl hR hx
  rw [hg] at GC
  obtain ⟨M0, hM0⟩ : ∃ M0, M0 = w1.heap.size := ⟨_, rfl⟩
  rw [← hM0] at BN
  have HM := Lib.hid hM0
  clear hw2 hy0 ha0 hM0
  go_wp2_with fail
  rw [HW2.out, ← HM.out]
  refine GC.mono ?_
  clear GC HW2 HM
  rintro e w3 ⟨rfl, b3⟩
  have B3 : Below w.heap.size w w3 := b2.trans (b3.mono b2.size)
  have BN3 := BN.below b3
  clear b3 b2 BN b1
  go_wp2_with fail
  go_loopw [20] (fun i wr => ∃ (k : Nat) (y : LogR) (z : RefR), k ≤ l.length ∧ i = .int .i64 (k : Int) ∧ BothOK wr w.heap.size y z (runP (l.take k)) ∧ y.D = y0.D ∧ z.M = M0 ∧ Below w.heap.size w wr) (fun i _ => l.length - (intOf i).toNat)
  case atStart => exact ⟨0, y0, _, by omega, rfl, BN3, rfl, rfl, B3⟩
  case round =>
    obtain ⟨k, y, z, hk, rfl, hB, hD, hM, bel⟩ := hrel
    have HD := Lib.hid hD
    have HM := Lib.hid hM
    clear hD hM BN3
    by_cases hlt : k < l.length
    · have hdec : decide ((k : Int) < (l.length : Int)) = true := decide_eq_true (by omega)
      have hdec' : decide (k < l.length) = true := decide_eq_true hlt
      have hltI : (k : Int) < (l.length : Int) := by omega
      obtain ⟨a, ha⟩ : ∃ a, l[k]? = some a := ⟨_, List.getElem?_eq_getElem hlt⟩
      have hao := hx a (List.mem_of_getElem? ha)
      have hag := hg2 a (List.mem_of_getElem? ha)
      obtain ⟨b, off, rfl, hbb, q0, q1, q2, q3⟩ := act_cells (hR.below bel) ha
      have bal : ∀ o, Below w.heap.size w (wr.alloc o) := fun o => bel.alloc bel.size o
      have hba : ∀ o, Below wr.heap.size wr (wr.alloc o) := fun o => (Below.refl _ _).alloc (Nat.le_refl _) o
      have DC := fun o => do_calls y z (runP (l.take k)) a w (wr.alloc o) (bal o) (hB.below (hba o)) hao hag
      rw [← runP_succ ha, HD.out, HM.out] at DC
      have HBel := fun o => Lib.hid (bal o)
      clear hao hag ha hB hR hx hg hg1 hg2 bal hba
      go_wp2_with fail
      refine (DC _).mono ?_
      clear DC
      rintro e w5 ⟨rfl, y', z', h5, hD5, hM5, b5⟩
      have HR : Hid (∃ (k' : Nat) (y : LogR) (z : RefR), k' ≤ l.length ∧ Value.int .i64 ((k : Int) + 1) = .int .i64 (k' : Int) ∧ BothOK w5 w.heap.size y z (runP (l.take k')) ∧ y.D = y0.D ∧ z.M = M0 ∧ Below w.heap.size w w5) := ⟨k + 1, y', z', by omega, by go_num, h5, hD5.trans HD.out, hM5.trans HM.out, (HBel _).out.trans b5⟩
      clear h5 hD5 hM5 b5 HBel
      go_wp2_with fail
      go_roundw
      case rel => exact HR.out
      case measure => simp [intOf]; omega
    · obtain rfl : k = l.length := by omega
      rw [List.take_length] at hB
      have HF : Hid (RetRun w w.heap.size l (.returned (.tuple #[.pointer (some ⟨y0.D, 0, none⟩), .pointer (some ⟨M0, 0, none⟩)])) wr) := ⟨y, z, by rw [HD.out, HM.out], hB, bel⟩
      clear hB hR hx hg hg1 hg2
      go_wp2_with fail
      go_ret2
      exact HF.out
end Go.Proofs.YtdcjljlppeighaaDoor
