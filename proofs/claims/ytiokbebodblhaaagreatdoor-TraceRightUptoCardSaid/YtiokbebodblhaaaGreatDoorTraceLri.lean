/-
  The statement TraceRight walked: the first event of any trace that can't have happened so is what the document says.
-/
import Derived.Test.YtiokbebodblhaaaGreatDoorTSmf
import Derived.Test.YtiokbebodblhaaaGreatDoorTAl
import Derived.Test.YtiokbebodblhaaaGreatDoorTraceRn
namespace Go.Proofs.YtiokbebodblhaaaGreatDoor
open Go.RowKit TraceP
attribute [local go_sem] Row.val

set_option maxRecDepth 100000 in
set_option maxHeartbeats 1600000 in
theorem traceRight_walk (W : World) (hT : Std W) (A : Option Addr) (c : Nat) (l : List EvtR) (h : RV W A (fl EvtR.cells l) ∧ l.length ≤ c ∧ c ≤ 9223372036854775807 ∧ l.length ≤ 1048576 ∧ ∀ e ∈ l, EvtOK W e ∧ BigE e.abs) :
    Calls Tryz.prog 6 #[.slice A l.length c] W fun e w' => e = .returned (.bool true) ∧ Below W.heap.size W w' := by
  have r0 : EvsOK W A l c := ⟨h.1, h.2.1, h.2.2.1, fun e he => (h.2.2.2.2 e he).1⟩
  have g0 := Lib.hid fun e he => (h.2.2.2.2 e he).2
  clear h
  have AL := alive_calls W hT
  go_enter Tryz.func6, Tryz.ntmps6
  go_upto_region 3 with (go_at_call 11; refine AL.mono ?_; rintro _ w1 ⟨rfl, B1⟩; clear AL)
  have SC := small_calls w1 A c l (r0.below B1) g0.out 40 (by omega)
  with_reducible refine wp_region_lit ?_
  with_reducible refine wpList_cutAt 2 ?_
  simp only [List.take_succ_cons, List.take_zero, List.drop_succ_cons, List.drop_zero]
  go_wp2_with (go_at_call 12; refine SC.mono ?_; rintro _ w2 ⟨q, rfl, hs, d2⟩; clear SC)
  with_reducible refine CutQ.go_ ?_
  have B2 := B1.trans (d2.mono B1.size)
  clear B1 d2
  cases q
  · go_wp2_with fail
    go_ret
    exact ⟨rfl, B2⟩
  · replace hs := hs rfl
    have P1 := pright_calls w2 (hT.below B2) A c l (r0.below B2) (fun e he => Nat.le_trans (g0.out e he).object (by decide)) (by omega)
    go_upto_region 5 with fail
    with_reducible refine wp_region_lit ?_
    with_reducible refine wpList_cutAt 2 ?_
    simp only [List.take_succ_cons, List.take_zero, List.drop_succ_cons, List.drop_zero]
    go_wp2_with (go_at_call 20; refine P1.mono ?_; rintro _ w3 ⟨rfl, d3⟩; clear P1)
    with_reducible refine CutQ.go_ ?_
    have B3 := B2.trans (d3.mono B2.size)
    have P2 := dright_calls w3 A c l (r0.below B3) (fun e he => (hs.2 e he).short (r0.ok e he).evtI) (by omega)
    rw [← rightL_both] at P2
    generalize rightL (absL l) = rr at *
    have e1 : (rr == rr) = true := beq_iff_eq.2 rfl
    go_wp2_with (go_at_call 21; refine P2.mono ?_; rintro _ w4 ⟨rfl, d4⟩; clear P2)
    go_ret
    exact ⟨rfl, B3.trans (d4.mono B3.size)⟩
end Go.Proofs.YtiokbebodblhaaaGreatDoor
