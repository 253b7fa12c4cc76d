/-
  The statement TraceSplits walked: the trace of any text is what the document says.
-/
import Derived.Test.YtiokbebodblhaaaGreatDoorTraceSq
import Derived.Test.YtiokbebodblhaaaGreatDoorTraceDe
namespace Go.Proofs.YtiokbebodblhaaaGreatDoor
open Go.RowKit TraceP
attribute [local go_sem] Row.val

theorem evtP_shortS {e : Evt} (h : EvtP e) : ShortE e := ⟨h.object, h.req, h.met, h.ans, h.fet, h.rep, h.bytes, h.keys⟩
set_option maxRecDepth 100000 in
set_option maxHeartbeats 1600000 in
theorem traceSplits_walk (a : ByteArray) (W : World) (hT : Std W) :
    Calls Tryz.prog 8 #[.string a] W fun e w' => e = .returned (.bool true) ∧ Below W.heap.size W w' := by
  obtain ⟨s, rfl⟩ : ∃ s : Txt, a = bstr s := ⟨a.data.toList, by unfold bstr; apply ByteArray.ext; simp⟩
  have hl : (bstr s).size = s.length := bstr_size _
  have AL := alive_calls W hT
  go_enter Tryz.func8, Tryz.ntmps8
  by_cases hm : 9000 < s.length
  · have d0 : decide ((9000 : Int) < (s.length : Int)) = true := decide_eq_true (by omega)
    go_wp2_with (go_at_call 11; refine AL.mono ?_; rintro _ w1 ⟨rfl, B1⟩)
    go_ret
    exact ⟨rfl, B1⟩
  · have d0 : decide ((9000 : Int) < (s.length : Int)) = false := decide_eq_false (by omega)
    go_upto_region 5 with (go_at_call 11; refine AL.mono ?_; rintro _ w1 ⟨rfl, B1⟩; clear AL)
    have SC := split2_calls w1 (hT.below B1) s (by omega)
    have SD := fun w => dsplit_calls w s (by omega)
    generalize splitS parE s [] = res at *
    obtain ⟨rl, rn, re⟩ := res
    go_upto_region 6 with (go_at_call 22; refine SC.mono ?_; rintro _ w2 ⟨v, l, rfl, hl1, X1, d1⟩; have B2 := B1.trans (d1.mono B1.size); clear SC d1 B1)
    replace SD := SD w2
    go_upto_region 7 with (go_at_call 23; refine SD.mono ?_; rintro _ w3 ⟨v', m, rfl, hm1, X2, d2⟩; have B3 := B2.trans (d2.mono B2.size); have X1' := X1.below d2; clear SD d2 B2 X1)
    have hx1 := fun e he => evtP_shortS (X1'.x e he).2
    have hx2 := fun e he => evtP_shortS (X2.x e he).2
    obtain ⟨A, c, rfl, OK1⟩ := X1'.ok
    obtain ⟨A', c', rfl, OK2⟩ := X2.ok
    have SM := dsame_calls w3 A A' c c' l m OK1 OK2 hx1 hx2
    rw [sm_true (hl1.trans hm1.symm)] at SM
    clear X1' X2 hl1 hm1 hx1 hx2 OK1 OK2
    have q1 : (re == re) = true := beq_iff_eq.2 rfl
    have q2 : (rn == rn) = true := beq_iff_eq.2 rfl
    go_wp2_with (go_at_call 19; refine SM.mono ?_; rintro _ w4 ⟨rfl, d3⟩; have B4 := B3.trans (d3.mono B3.size); clear SM d3 B3)
    go_ret
    exact ⟨rfl, B4⟩
end Go.Proofs.YtiokbebodblhaaaGreatDoor
