/-
  Walk of the document: are two traces the same.
-/
import Derived.Test.YtiokbebodblhaaaGreatDoorTraceDf
import Derived.Test.YtiokbebodblhaaaGreatDoorTSm
namespace Go.Proofs.YtiokbebodblhaaaGreatDoor
open Go.RowKit TraceP

theorem load_row {w1 : World} {b o : Nat} {e : EvtR} (h : w1.rangeAt b o e.cells) (hb : b < w1.heap.size) : Hid (∀ r, (Instr.loadAt 45 (.pointer (some ⟨b, o, none⟩))).run Tryz.prog (grow w1 r) = .ok (.agg e.cells.toArray) (grow w1 r)) := Lib.hid fun r =>
  run_loadAt_mid (grow w1 r) b o 45 e.cells _ (rangeAt_below h hb (grow_below w1 r)) Tryz.underlying45 (by kernel_rfl) (by kernel_rfl)
set_option maxRecDepth 100000 in
set_option maxHeartbeats 3200000 in
theorem dsame_calls (w : World) (A A' : Option Addr) (c c' : Nat) (l l' : List EvtR) (hr : EvsOK w A l c) (hr' : EvsOK w A' l' c') (hs : ∀ e ∈ l, ShortE e.abs) (hs' : ∀ e ∈ l', ShortE e.abs) :
    Calls Tryz.prog 19 #[.slice A l.length c, .slice A' l'.length c'] w fun e w' => e = .returned (.bool (sm (absL l) (absL l'))) ∧ Below w.heap.size w w' := by
  by_cases hl : l.length = l'.length
  · have dl : ((l.length : Int) == (l'.length : Int)) = true := beq_iff_eq.2 (by omega)
    have dl2 : ((l.length : Int) != (l'.length : Int)) = false := by rw [bne, dl]; rfl
    have lmax : l.length ≤ 9223372036854775807 := Nat.le_trans hr.le hr.cap
    replace hl := Lib.hid hl
    go_enter Tryz.func19, Tryz.ntmps19
    go_wp2_with fail
    go_loopw [13] (fun i wr => ∃ k : Nat, k ≤ l.length ∧ i = .int .i64 (k : Int) ∧ Hid ((absL l).take k = (absL l').take k) ∧ Below w.heap.size w wr) (fun i _ => l.length - (intOf i).toNat)
    case atStart => exact ⟨0, by omega, rfl, Lib.hid rfl, Below.refl _ _⟩
    case round =>
      obtain ⟨k, hk, rfl, ht, B⟩ := hrel
      by_cases hlt : k < l.length
      · have dec : decide ((k : Int) < (l.length : Int)) = true := decide_eq_true (by omega)
        have dec' : decide (k < l.length) = true := decide_eq_true hlt
        have hlt' : k < l'.length := by have := hl.out; omega
        have dec3 : decide ((k : Int) < (l'.length : Int)) = true := decide_eq_true (by omega)
        have dec3' : decide (k < l'.length) = true := decide_eq_true (by omega)
        obtain ⟨b, off, rfl, hbs, hc⟩ := evt_at (hr.rv.below B) hlt
        obtain ⟨b', off', rfl, hbs', hc'⟩ := evt_at (hr'.rv.below B) hlt'
        have t1 := Lib.hid (absL_take hlt)
        have t2 := Lib.hid (absL_take hlt')
        have ox := ((hr.ok _ (List.getElem_mem hlt)).below B)
        have oy := ((hr'.ok _ (List.getElem_mem hlt')).below B)
        have sx := hs _ (List.getElem_mem hlt)
        have sy := hs' _ (List.getElem_mem hlt')
        generalize l[k] = x at *
        generalize l'[k] = y at *
        have hx := load_row hc hbs
        have hy := load_row hc' hbs'
        clear hc hc'
        go_upto_region 6 with fail
        refine wp_region_grow (by kernel_rfl) (by kernel_rfl) ?_
        go_big_quiet_step (fail)
        go_big_quiet_step (fail)
        go_big_quiet_step (fail)
        with_reducible refine wpQuiet_load (by kernel_rfl) 45 (.tmp 18) rfl (.pointer (some ⟨b, off + k * 57, none⟩)) (by kernel_rfl) (.agg x.cells.toArray) (by rintro w' ⟨r, rfl⟩; exact hx.out r) ?_
        go_frame
        go_big_quiet_step (fail)
        go_big_quiet_step (fail)
        go_big_quiet_step (fail)
        with_reducible refine wpQuiet_load (by kernel_rfl) 45 (.tmp 22) rfl (.pointer (some ⟨b', off' + k * 57, none⟩)) (by kernel_rfl) (.agg y.cells.toArray) (by rintro w' ⟨r, rfl⟩; exact hy.out r) ?_
        go_frame
        go_big_quiet_step (first | (go_at_call 17; exact dalikeC_grow _ _ ox oy sx sy))
        by_cases hxy : x.abs = y.abs
        · rw [sm_true hxy]
          repeat (go_big_quiet_step (fail))
          refine wpQuiet_nil ?_
          rintro w' ⟨r, rfl⟩
          have BC := B.trans ((grow_below wr r).mono B.size)
          clear hx hy ox oy
          go_wp2_with fail
          go_roundw
          case rel => exact ⟨k + 1, by omega, by go_num, Lib.hid (by rw [t1.out, t2.out, ht.out, hxy]), BC⟩
          case measure => simp [intOf]; omega
        · rw [sm_false hxy]
          repeat (go_big_quiet_step (fail))
          refine wpQuiet_nil ?_
          rintro w' ⟨r, rfl⟩
          have BC := B.trans ((grow_below wr r).mono B.size)
          clear hx hy ox oy
          go_wp2_with fail
          go_ret
          refine ⟨?_, BC⟩
          rw [sm_false (ne_step ht.out t1.out t2.out hxy)]
          rfl
      · obtain rfl : k = l.length := by omega
        have dec : decide ((l.length : Int) < (l.length : Int)) = false := decide_eq_false (by omega)
        have he := ht.out
        rw [← absL_len l, List.take_length, absL_len l, hl.out, ← absL_len l', List.take_length] at he
        replace he := Lib.hid he
        go_wp2_with fail
        go_ret
        exact ⟨by rw [sm_true he.out]; rfl, B⟩
  · have dl : ((l.length : Int) == (l'.length : Int)) = false := beq_eq_false_iff_ne.2 (by omega)
    have dl2 : ((l.length : Int) != (l'.length : Int)) = true := by rw [bne, dl]; rfl
    have hss : sm (absL l) (absL l') = false := sm_false fun e => hl (by rw [← absL_len l, ← absL_len l', e])
    go_enter Tryz.func19, Tryz.ntmps19
    go_wp2_with fail
    go_ret
    exact ⟨by rw [hss]; rfl, Below.refl _ _⟩
end Go.Proofs.YtiokbebodblhaaaGreatDoor
