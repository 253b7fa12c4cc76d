/-
  The walk of same: does a disk tell what the document's one does? It does, if both are one disk in plain words.
-/
import Derived.Test.YtmemkoiooanhkaaRefWalkG
import Derived.Test.YtmemkoiooanhkaaStr
namespace Go.Proofs.Ytmemkoiooanhkaa
open Go.RowKit DiskP

set_option maxHeartbeats 1600000 in
theorem same_calls (y : Lay) (m : Ref) (F : Nat → Prop) (w : World) (base : Nat) (h : DiskOK w base y) (hr : RefOK w F m y.abs) (hw : y.wp.length ≤ 1000000) :
    Calls Try.prog 22 #[.pointer (some ⟨y.D, 0, none⟩), m.val y.abs.size y.abs.off] w fun e w' => e = .returned (.bool true) ∧ Below w.heap.size w w' := by
  have hLl : m.L.length = y.lp.length := by rw [hr.lo.len]; simp [Lay.abs]
  have hWl : m.W.length = y.wp.length := by rw [hr.wo.len]; simp [Lay.abs]
  have hl2 := h.l2
  have hs2 := h.s2
  have RR := fun (n : Int) (w2 : World) (b2 : Below w.heap.size w w2) => rread_calls m y.abs F n w2 (hr.below b2) (by rw [← wlen]; omega)
  have hz : y.abs.size = y.size := rfl
  rw [hz] at RR ⊢
  generalize y.abs.off = ov at RR ⊢
  obtain ⟨AL, kL, L, AW, kW, W⟩ := m
  simp only at hLl hWl
  have e1 : ((y.lp.length : Int) != (L.length : Int)) = false := by simp; omega
  have e1' : (y.lp.length != L.length) = false := by simp; omega
  have e2 : ((y.wp.length : Int) != (W.length : Int)) = false := by simp; omega
  have e2' : (y.wp.length != W.length) = false := by simp; omega
  have HL := Lib.hid hLl
  have HW := Lib.hid hWl
  clear hLl hWl hr hz
  unfold Ref.val at RR ⊢
  have HRR := Lib.hid RR
  clear RR
  go_enter Try.func22, Try.ntmps22
  go_wp2_with fail
  have b1 : Below w.heap.size w (w.alloc (.cells #[.int .i64 (y.size : Int), .slice AL L.length kL, .slice AW W.length kW, .bool ov] 51)) := (Below.refl _ _).alloc (Nat.le_refl _) _
  refine (size_calls y _ base (h.below b1)).mono ?_
  rintro e w1 ⟨rfl, q1, rfl⟩
  have hw1 : DiskOK ((w.alloc (.cells #[.int .i64 (y.size : Int), .slice AL L.length kL, .slice AW W.length kW, .bool ov] 51)).drewN q1) base y := (h.below b1).frame fun _ _ => rfl
  have x1 : Blk ((w.alloc (.cells #[.int .i64 (y.size : Int), .slice AL L.length kL, .slice AW W.length kW, .bool ov] 51)).drewN q1) w.heap.size 51 #[.int .i64 (y.size : Int), .slice AL L.length kL, .slice AW W.length kW, .bool ov] := Blk.new w _ _
  have b1' : Below w.heap.size w ((w.alloc (.cells #[.int .i64 (y.size : Int), .slice AL L.length kL, .slice AW W.length kW, .bool ov] 51)).drewN q1) := ⟨b1.os, b1.tape, b1.output, b1.size, b1.block⟩
  generalize (w.alloc (.cells #[.int .i64 (y.size : Int), .slice AL L.length kL, .slice AW W.length kW, .bool ov] 51)).drewN q1 = w1 at hw1 x1 b1' ⊢
  have q0 : w1.cell? ⟨w.heap.size, 0, none⟩ = some (.int .i64 (y.size : Int)) := x1.at_ rfl
  have q1 : w1.cell? ⟨w.heap.size, 1, none⟩ = some (.slice AL L.length kL) := x1.at_ rfl
  have q2 : w1.cell? ⟨w.heap.size, 2, none⟩ = some (.slice AW W.length kW) := x1.at_ rfl
  clear b1
  go_wp2_with fail
  have g0 : ∀ r, (grow w1 r).cell? ⟨w.heap.size, 0, none⟩ = some (.int .i64 (y.size : Int)) := fun r => (x1.below (grow_below w1 r) x1.lt).at_ rfl
  have g1 : ∀ r, (grow w1 r).cell? ⟨w.heap.size, 1, none⟩ = some (.slice AL L.length kL) := fun r => (x1.below (grow_below w1 r) x1.lt).at_ rfl
  have g2 : ∀ r, (grow w1 r).cell? ⟨w.heap.size, 2, none⟩ = some (.slice AW W.length kW) := fun r => (x1.below (grow_below w1 r) x1.lt).at_ rfl
  refine wp_region_grow (by kernel_rfl) (by kernel_rfl) ?_
  repeat (go_big_quiet_step (fail))
  go_big_quiet_step (exact calls_grow_same (waits_calls y _ base (hw1.below (grow_below _ _))))
  repeat (go_big_quiet_step (fail))
  refine wpQuiet_nil ?_
  intro _ hw'
  obtain ⟨r2, rfl⟩ := hw'
  have b2 := grow_below w1 r2
  generalize grow w1 r2 = w2 at b2 ⊢
  have hw2 := hw1.below b2
  have x2 := x1.below b2 x1.lt
  have b2' : Below w.heap.size w w2 := b1'.trans (b2.mono b1'.size)
  clear g0 g1 g2 q0 q1 q2 x1 hw1 b1' b2
  go_wp2
  go_loopw [7, 8, 9, 10, 11] (fun i _ _ _ _ wr => ∃ k : Nat, k ≤ y.lp.length + 2 ∧ i = .int .i64 ((k : Int) - 1) ∧ Below w2.heap.size w2 wr) (fun i _ _ _ _ _ => y.lp.length + 2 - (intOf i + 1).toNat)
  case atStart => exact ⟨0, by omega, rfl, Below.refl _ _⟩
  case round =>
    obtain ⟨k, hk, rfl, bel⟩ := hrel
    by_cases hlt : k < y.lp.length + 2
    · have hdec : decide ((k : Int) - 1 ≤ (y.lp.length : Int)) = true := by simp; omega
      have hwr := hw2.below bel
      go_wp2_with fail
      refine (read_calls y ((k : Int) - 1) wr base hwr).mono ?_
      rintro e w3 ⟨v3, rfl, own3, b3⟩
      obtain ⟨A3, c3, hv3, _, _⟩ := own_form own3
      subst hv3
      have rb3 : RB w3 A3 (y.abs.readL ((k : Int) - 1)) := RV.of_own own3
      have x3 := (x2.below bel x2.lt).below b3 (Nat.lt_of_lt_of_le x2.lt bel.size)
      have b3' : Below w.heap.size w w3 := b2'.trans ((bel.trans (b3.mono bel.size)).mono b2'.size)
      have q0 : w3.cell? ⟨w.heap.size, 0, none⟩ = some (.int .i64 (y.size : Int)) := x3.at_ rfl
      have q1 : w3.cell? ⟨w.heap.size, 1, none⟩ = some (.slice AL L.length kL) := x3.at_ rfl
      have q2 : w3.cell? ⟨w.heap.size, 2, none⟩ = some (.slice AW W.length kW) := x3.at_ rfl
      have q3 : w3.cell? ⟨w.heap.size, 3, none⟩ = some (.bool ov) := x3.at_ rfl
      have bel3 : Below w2.heap.size w2 w3 := bel.trans (b3.mono bel.size)
      clear own3 b3
      have RR := HRR.out ((k : Int) - 1) w3 b3'
      go_wp2_with fail
      refine RR.mono ?_
      rintro e w4 ⟨A4, c4, rfl, rv4, b4⟩
      generalize y.abs.readL ((k : Int) - 1) = l at rb3 rv4 ⊢
      generalize y.abs.readE ((k : Int) - 1) = ke
      have cv3 := run_str w4 _ _ _ Try.underlying35 Try.underlying5 Try.underlying9 A3 l l.length c3 (rb3.below b4) rfl
      have cv4 := run_str w4 _ _ _ Try.underlying35 Try.underlying5 Try.underlying9 A4 l l.length c4 rv4.rv rfl
      have bel4 : Below w2.heap.size w2 w4 := bel3.trans (b4.mono bel3.size)
      clear RR rb3 rv4 q0 q1 q2 q3 b3' b4 bel3 bel
      go_wp2
      go_roundw
      case rel => exact ⟨k + 1, by omega, by rw [show ((k + 1 : Nat) : Int) - 1 = (k : Int) by omega], bel4⟩
      case measure => simp [intOf]; omega
    · obtain rfl : k = y.lp.length + 2 := by omega
      have hdec : decide (((y.lp.length + 2 : Nat) : Int) - 1 ≤ (y.lp.length : Int)) = false := by simp; omega
      go_wp2
      go_ret
      exact ⟨rfl, b2'.trans (bel.mono b2'.size)⟩
end Go.Proofs.Ytmemkoiooanhkaa
