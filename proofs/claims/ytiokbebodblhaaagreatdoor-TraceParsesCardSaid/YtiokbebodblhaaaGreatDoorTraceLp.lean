/-
  The statement TraceParses walked: the event of any line is what the document says.
-/
import Derived.Test.YtiokbebodblhaaaGreatDoorTraceGr
import Derived.Test.YtiokbebodblhaaaGreatDoorTAl
namespace Go.Proofs.YtiokbebodblhaaaGreatDoor
open Go.RowKit TraceP
attribute [local go_sem] Row.val

theorem parE_P {s : Txt} {e : Evt} (h : parE s = some e) : EvtP e := by
  unfold parE at h
  split at h
  · cases h
  · rename_i hs
    split at h
    · cases h
    · split at h
      · injection h with h
        subst h
        exact (evt_out (words_sh (by omega))).1
      · cases h
theorem par_P (s : Txt) : EvtP ((parE s).getD zEvt) := by
  cases h : parE s with
  | none => exact zEvt_p (k := 0) (t := 0) (n := 0) (w := 0) ⟨by decide, by decide⟩ i64_zero i64_zero i64_zero
  | some e => exact parE_P h
theorem evtP_short {e : Evt} (h : EvtP e) : ShortE e := ⟨h.object, h.req, h.met, h.ans, h.fet, h.rep, h.bytes, h.keys⟩
set_option maxRecDepth 100000 in
set_option maxHeartbeats 1600000 in
theorem traceParses_walk (a : ByteArray) (W : World) (hT : Std W) :
    Calls Tryz.prog 4 #[.string a] W fun e w' => e = .returned (.bool true) ∧ Below W.heap.size W w' := by
  obtain ⟨s, rfl⟩ : ∃ s : Txt, a = bstr s := ⟨a.data.toList, by unfold bstr; apply ByteArray.ext; simp⟩
  have hl : (bstr s).size = s.length := bstr_size _
  have AL := alive_calls W hT
  go_enter Tryz.func4, Tryz.ntmps4
  by_cases hm : 5000 < s.length
  · have d0 : decide ((5000 : Int) < (s.length : Int)) = true := decide_eq_true (by omega)
    go_wp2_with (go_at_call 11; refine AL.mono ?_; rintro _ w1 ⟨rfl, B1⟩)
    go_ret
    exact ⟨rfl, B1⟩
  · have d0 : decide ((5000 : Int) < (s.length : Int)) = false := decide_eq_false (by omega)
    go_upto_region 5 with (go_at_call 11; refine AL.mono ?_; rintro _ w1 ⟨rfl, B1⟩; clear AL)
    have PC := parse_calls w1 (hT.below B1) s
    with_reducible refine wp_region_lit ?_
    with_reducible refine wpList_cutAt 5 ?_
    simp only [List.take_succ_cons, List.take_zero, List.drop_succ_cons, List.drop_zero]
    go_wp2_with (go_at_call 15; refine PC.mono ?_; rintro _ w2 ⟨e, rfl, he, N, B2⟩; clear PC)
    with_reducible refine CutQ.go_ ?_
    with_reducible refine wpList_cutAt 1 ?_
    simp only [List.take_succ_cons, List.take_zero, List.drop_succ_cons, List.drop_zero]
    repeat (first | go_values | go_skip | go_guarded | go_step | go_upon)
    with_reducible refine CutQ.go_ ?_
    have OK := N.ok (by rw [he]; exact par_P s)
    have SE : ShortE e.abs := by rw [he]; exact evtP_short (par_P s)
    have BB := B1.trans (B2.mono B1.size)
    have hb0 : W.heap.size ≤ w2.heap.size := BB.size
    have bE0 := Blk.new w2 45 zEvtR.cells.toArray
    have dE0 := below_new w2 (.cells zEvtR.cells.toArray 45)
    with_reducible refine wpList_abs (fun w' => Blk w' w2.heap.size 45 zEvtR.cells.toArray ∧ Below w2.heap.size w2 w') ?_ ?_
    · exact ⟨bE0, dE0⟩
    clear bE0 dE0
    rintro w3 ⟨bE0, dE0⟩
    have bE' : w3.heap[w2.heap.size]? = some (Obj.cells zEvtR.cells.toArray 45) := bE0
    with_reducible refine wpList_store_row rfl 45 (.tmp 3) (.tmp 15) rfl w2.heap.size e.cells.toArray (by kernel_rfl) (by kernel_rfl) 45 zEvtR.cells.toArray bE' (by kernel_rfl) (by kernel_rfl) (by kernel_rfl) ?_
    have bE := bE0.setRow_ e.cells.toArray
    have dE := below_setRow dE0 (Nat.le_refl _) e.cells.toArray
    revert bE dE
    generalize w3.setRow w2.heap.size e.cells.toArray = w4
    clear bE' bE0 dE0 w3
    intro bE dE
    simp only [Act.put]
    replace OK := OK.below dE
    have B4 := BB.trans (dE.mono hb0)
    have hb2 := bE.lt
    obtain ⟨b1, hb1⟩ : ∃ b, b = w2.heap.size := ⟨_, rfl⟩
    rw [← hb1] at bE hb2 ⊢
    clear hb1 dE BB N B1 B2 hb0
    have PC := dparse_calls w4 s
    go_upto_region 6 with (fail)
    with_reducible refine wp_region_lit ?_
    with_reducible refine wpList_cutAt 5 ?_
    simp only [List.take_succ_cons, List.take_zero, List.drop_succ_cons, List.drop_zero]
    go_wp2_with (go_at_call 16; refine PC.mono ?_; rintro _ w5 ⟨x, rfl, hx, N, B5⟩; clear PC)
    with_reducible refine CutQ.go_ ?_
    with_reducible refine wpList_cutAt 1 ?_
    simp only [List.take_succ_cons, List.take_zero, List.drop_succ_cons, List.drop_zero]
    repeat (first | go_values | go_skip | go_guarded | go_step | go_upon)
    with_reducible refine CutQ.go_ ?_
    have OKx := N.ok (by rw [hx]; exact par_P s)
    have SX : ShortE x.abs := by rw [hx]; exact evtP_short (par_P s)
    have BB := B4.trans (B5.mono B4.size)
    have hb0 : W.heap.size ≤ w5.heap.size := BB.size
    have bX0 := Blk.new w5 45 zEvtR.cells.toArray
    have dX0 := below_new w5 (.cells zEvtR.cells.toArray 45)
    have bE5 := bE.below B5 bE.lt
    with_reducible refine wpList_abs (fun w' => Blk w' w5.heap.size 45 zEvtR.cells.toArray ∧ Below w5.heap.size w5 w') ?_ ?_
    · exact ⟨bX0, dX0⟩
    clear bX0 dX0
    rintro w6 ⟨bX0, dX0⟩
    have bX' : w6.heap[w5.heap.size]? = some (Obj.cells zEvtR.cells.toArray 45) := bX0
    with_reducible refine wpList_store_row rfl 45 (.tmp 5) (.tmp 20) rfl w5.heap.size x.cells.toArray (by kernel_rfl) (by kernel_rfl) 45 zEvtR.cells.toArray bX' (by kernel_rfl) (by kernel_rfl) (by kernel_rfl) ?_
    have bX := bX0.setRow_ x.cells.toArray
    have dX := below_setRow dX0 (Nat.le_refl _) x.cells.toArray
    revert bX dX
    generalize w6.setRow w5.heap.size x.cells.toArray = w7
    clear bX' bX0 dX0 w6
    intro bX dX
    simp only [Act.put]
    replace OKx := OKx.below dX
    have OKe := (OK.below B5).below dX
    have bE7 := bE5.below dX bE5.lt
    have B7 := BB.trans (dX.mono hb0)
    obtain ⟨b2, hb2'⟩ : ∃ b, b = w5.heap.size := ⟨_, rfl⟩
    rw [← hb2'] at bX ⊢
    clear hb2' dX BB N B4 B5 hb0 OK bE bE5 hb2
    have hsm : sm e.abs x.abs = true := sm_true (by rw [he, hx])
    generalize parN s = pn at *
    clear he hx
    have hlE := load_evt bE7
    have hlX := load_evt bX
    go_upto_region 7 with (fail)
    have hpp : (pn == pn) = true := beq_iff_eq.2 rfl
    with_reducible refine wp_region_lit ?_
    with_reducible refine wpList_quiet (C := fun w' => ∃ r, w' = grow w7 r) ⟨w7, (grow_of (Below.refl _ _)).symm⟩ ?_
    go_big_quiet_step (fail)
    go_big_quiet_step (fail)
    go_big_quiet_step (fail)
    go_big_quiet_step (fail)
    with_reducible refine wpQuiet_load (by kernel_rfl) 45 (.tmp 3) rfl (.pointer (some ⟨b1, 0, none⟩)) (by kernel_rfl) (.agg e.cells.toArray) (by rintro w' ⟨r, rfl⟩; exact hlE.out r) ?_
    go_frame
    with_reducible refine wpQuiet_load (by kernel_rfl) 45 (.tmp 5) rfl (.pointer (some ⟨b2, 0, none⟩)) (by kernel_rfl) (.agg x.cells.toArray) (by rintro w' ⟨r, rfl⟩; exact hlX.out r) ?_
    go_frame
    go_big_quiet_step (first | (go_at_call 17; exact dalikeC_grow _ _ OKe OKx SE SX))
    rw [hsm]
    repeat (go_big_quiet_step (fail))
    refine wpQuiet_nil ?_
    rintro w' ⟨r, rfl⟩
    have BF := B7.trans ((grow_below w7 r).mono B7.size)
    clear hlE hlX
    go_wp2
    go_ret
    exact ⟨rfl, BF⟩
end Go.Proofs.YtiokbebodblhaaaGreatDoor
