/-
  The statement TraceTexts walked: the line of any event, or why there is none, is what the document says.
-/
import Derived.Test.YtiokbebodblhaaaGreatDoorTSmf
import Derived.Test.YtiokbebodblhaaaGreatDoorTraceDt
import Derived.Test.YtiokbebodblhaaaGreatDoorTAl
namespace Go.Proofs.YtiokbebodblhaaaGreatDoor
open Go.RowKit TraceP
attribute [local go_sem] Row.val

set_option maxRecDepth 100000 in
set_option maxHeartbeats 1600000 in
theorem traceTexts_walk (e : EvtR) (W : World) (hT : Std W) (ho : EvtOK W e) (hb : BigE e.abs) :
    Calls Tryz.prog 3 #[.agg e.cells.toArray] W fun r w' => r = .returned (.bool true) ∧ Below W.heap.size W w' := by
  have bE := Blk.new W 45 e.cells.toArray
  have B1 := below_new W (.cells e.cells.toArray 45)
  go_enter Tryz.func3, Tryz.ntmps3
  go_upto_region 1 with fail
  revert bE B1
  generalize W.alloc (.cells e.cells.toArray 45) = w1
  intro bE B1
  have AL := alive_calls w1 (hT.below B1)
  go_upto_region 3 with (go_at_call 11; refine AL.mono ?_; rintro _ w2 ⟨rfl, d2⟩; clear AL)
  have B2 := B1.trans (d2.mono B1.size)
  have bE2 := bE.below d2 bE.lt
  have bE' : w2.heap[W.heap.size]? = some (Obj.cells e.cells.toArray 45) := bE2
  with_reducible refine wp_region_lit ?_
  with_reducible refine wpList_load_row rfl 45 (.tmp 1) rfl W.heap.size (by kernel_rfl) 45 e.cells.toArray (0, 0) _ bE' Tryz.underlying45 (by kernel_rfl) (by kernel_rfl) ?_
  go_frame
  with_reducible refine wpList_one (by kernel_rfl) (fun Kb hKb => ?_)
  refine wp_row1 (.tmp 9) rfl e (by kernel_rfl) ?_
  refine hKb _ _ ?_
  clear hKb Kb
  go_frame
  with_reducible refine wpList_abs (fun w' => Blk w' w2.heap.size 45 e.cells.toArray ∧ Below w2.heap.size w2 w') ?_ ?_
  · exact ⟨Blk.new w2 45 e.cells.toArray, below_new w2 (.cells e.cells.toArray 45)⟩
  rintro w3 ⟨bG, d3⟩
  have B3 := B2.trans (d3.mono B2.size)
  have bE3 := bE2.below d3 bE2.lt
  have SC := small_calls w3 (some ⟨w2.heap.size, 0, none⟩) 1 [e] (evs_one bG (ho.below B3)) (by intro x hx; rw [List.mem_singleton.1 hx]; exact hb) 1 (by omega)
  clear bE bE' bE2 d2 B1 B2 bG d3
  with_reducible refine wpList_cutAt 1 ?_
  simp only [List.take_succ_cons, List.take_zero, List.drop_succ_cons, List.drop_zero]
  go_wp2_with (go_at_call 12; refine SC.mono ?_; rintro _ w4 ⟨q, rfl, hs, d4⟩; clear SC)
  with_reducible refine CutQ.go_ ?_
  have B4 := B3.trans (d4.mono B3.size)
  have bE4 := bE3.below d4 bE3.lt
  clear bE3 d4 B3
  cases q
  · go_wp2_with fail
    go_ret
    exact ⟨rfl, B4⟩
  · have SE : ShortE e.abs := ((hs rfl).2 e (by simp)).short ho.evtI
    clear hs
    have TC := tx_calls e w4 (hT.below B4) (ho.below B4) (line_fits SE ho)
    have bE' : w4.heap[W.heap.size]? = some (Obj.cells e.cells.toArray 45) := bE4
    go_upto_region 5 with fail
    with_reducible refine wp_region_lit ?_
    with_reducible refine wpList_load_row rfl 45 (.tmp 1) rfl W.heap.size (by kernel_rfl) 45 e.cells.toArray (0, 0) _ bE' Tryz.underlying45 (by kernel_rfl) (by kernel_rfl) ?_
    go_frame
    clear bE'
    go_upto_region 6 with (go_at_call 13; refine TC.mono ?_; rintro _ w5 ⟨hr, d5⟩; unfold RetTx at hr; subst hr; clear TC)
    have B5 := B4.trans (d5.mono B4.size)
    have bE5 := bE4.below d5 bE4.lt
    clear bE4 d5 B4
    have TC := dtext_calls e w5 (ho.below B5) SE
    have bE' : w5.heap[W.heap.size]? = some (Obj.cells e.cells.toArray 45) := bE5
    with_reducible refine wp_region_lit ?_
    with_reducible refine wpList_load_row rfl 45 (.tmp 1) rfl W.heap.size (by kernel_rfl) 45 e.cells.toArray (0, 0) _ bE' Tryz.underlying45 (by kernel_rfl) (by kernel_rfl) ?_
    go_frame
    clear bE'
    go_upto_region 7 with (go_at_call 14; refine TC.mono ?_; rintro _ w6 ⟨hr, d6⟩; unfold RetTx at hr; subst hr; clear TC)
    have B6 := B5.trans (d6.mono B5.size)
    clear bE5 d6 B5
    have e1 : ((bstr (textT e.abs)).toList == (bstr (textT e.abs)).toList) = true := beq_iff_eq.2 rfl
    have e2 : (textE e.abs == textE e.abs) = true := beq_iff_eq.2 rfl
    generalize textT e.abs = tt at *
    generalize textE e.abs = te at *
    go_wp2_with fail
    go_ret
    exact ⟨rfl, B6⟩
end Go.Proofs.YtiokbebodblhaaaGreatDoor
