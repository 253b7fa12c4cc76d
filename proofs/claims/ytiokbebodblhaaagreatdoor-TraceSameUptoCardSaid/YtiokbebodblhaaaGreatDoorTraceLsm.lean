/-
  The statement TraceSame walked: whether any two traces are alike.
-/
import Derived.Test.YtiokbebodblhaaaGreatDoorTSmf
import Derived.Test.YtiokbebodblhaaaGreatDoorTraceDe
import Derived.Test.YtiokbebodblhaaaGreatDoorTAl
namespace Go.Proofs.YtiokbebodblhaaaGreatDoor
open Go.RowKit TraceP
attribute [local go_sem] Row.val

set_option maxRecDepth 100000 in
set_option maxHeartbeats 1600000 in
theorem traceSame_walk (W : World) (hT : Std W) (A0 : Option Addr) (c0 : Nat) (l0 : List EvtR) (A1 : Option Addr) (c1 : Nat) (l1 : List EvtR) (h0 : RV W A0 (fl EvtR.cells l0) ∧ l0.length ≤ c0 ∧ c0 ≤ 9223372036854775807 ∧ l0.length ≤ 1048576 ∧ ∀ e ∈ l0, EvtOK W e ∧ BigE e.abs) (h1 : RV W A1 (fl EvtR.cells l1) ∧ l1.length ≤ c1 ∧ c1 ≤ 9223372036854775807 ∧ l1.length ≤ 1048576 ∧ ∀ e ∈ l1, EvtOK W e ∧ BigE e.abs) :
    Calls Tryz.prog 5 #[.slice A0 l0.length c0, .slice A1 l1.length c1] W fun e w' => e = .returned (.bool true) ∧ Below W.heap.size W w' := by
  have r0 : EvsOK W A0 l0 c0 := ⟨h0.1, h0.2.1, h0.2.2.1, fun e he => (h0.2.2.2.2 e he).1⟩
  have r1 : EvsOK W A1 l1 c1 := ⟨h1.1, h1.2.1, h1.2.2.1, fun e he => (h1.2.2.2.2 e he).1⟩
  have g0 := Lib.hid fun e he => (h0.2.2.2.2 e he).2
  have g1 := Lib.hid fun e he => (h1.2.2.2.2 e he).2
  clear h0 h1
  have AL := alive_calls W hT
  go_enter Tryz.func5, Tryz.ntmps5
  go_upto_region 3 with (go_at_call 11; refine AL.mono ?_; rintro _ w1 ⟨rfl, B1⟩; clear AL)
  have SC := small_calls w1 A0 c0 l0 (r0.below B1) g0.out 20 (by omega)
  with_reducible refine wp_region_lit ?_
  with_reducible refine wpList_cutAt 2 ?_
  simp only [List.take_succ_cons, List.take_zero, List.drop_succ_cons, List.drop_zero]
  go_wp2_with (go_at_call 12; refine SC.mono ?_; rintro _ w2 ⟨q0, rfl, s0, B2⟩; clear SC)
  with_reducible refine CutQ.go_ ?_
  replace B2 := B1.trans (B2.mono B1.size)
  cases q0
  · go_wp2_with fail
    go_ret
    exact ⟨rfl, B2⟩
  · have SC := small_calls w2 A1 c1 l1 (r1.below B2) g1.out 20 (by omega)
    replace s0 := Lib.hid (s0 rfl)
    with_reducible refine wpList_cutAt 4 ?_
    simp only [List.take_succ_cons, List.take_zero, List.drop_succ_cons, List.drop_zero]
    go_wp2_with (go_at_call 12; refine SC.mono ?_; rintro _ w3 ⟨q1, rfl, s1, B3⟩; clear SC)
    with_reducible refine CutQ.go_ ?_
    replace B3 := B2.trans (B3.mono B2.size)
    clear B1 B2
    cases q1
    · go_wp2_with fail
      go_ret
      exact ⟨rfl, B3⟩
    · replace s1 := Lib.hid (s1 rfl)
      go_upto_region 5 with fail
      have C1 := same_calls w3 A0 A1 c0 c1 l0 l1 (r0.below B3) (r1.below B3)
      with_reducible refine wp_region_lit ?_
      with_reducible refine wpList_cutAt 3 ?_
      simp only [List.take_succ_cons, List.take_zero, List.drop_succ_cons, List.drop_zero]
      go_wp2_with (go_at_call 18; refine C1.mono ?_; rintro _ w4 ⟨rfl, d4⟩; clear C1)
      with_reducible refine CutQ.go_ ?_
      replace d4 := B3.trans (d4.mono B3.size)
      have C2 := dsame_calls w4 A0 A1 c0 c1 l0 l1 (r0.below d4) (r1.below d4) (fun e he => (s0.out.2 e he).short ((r0.ok e he).evtI)) (fun e he => (s1.out.2 e he).short ((r1.ok e he).evtI))
      with_reducible refine wpList_cutAt 3 ?_
      simp only [List.take_succ_cons, List.take_zero, List.drop_succ_cons, List.drop_zero]
      go_wp2_with (go_at_call 19; refine C2.mono ?_; rintro _ w5 ⟨rfl, d5⟩; clear C2)
      with_reducible refine CutQ.go_ ?_
      replace d5 := d4.trans (d5.mono d4.size)
      have hpp : (sm (absL l0) (absL l1) == sm (absL l0) (absL l1)) = true := beq_iff_eq.2 rfl
      have C3 := same_calls w5 A0 A0 c0 c0 l0 l0 (r0.below d5) (r0.below d5)
      rw [sm_true (rfl : absL l0 = absL l0)] at C3
      go_wp2_with (go_at_call 18; refine C3.mono ?_; rintro _ w6 ⟨rfl, d6⟩; clear C3)
      go_ret
      exact ⟨rfl, d5.trans (d6.mono d5.size)⟩
end Go.Proofs.YtiokbebodblhaaaGreatDoor
