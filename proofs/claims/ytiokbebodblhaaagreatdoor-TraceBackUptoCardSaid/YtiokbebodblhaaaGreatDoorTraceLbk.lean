/-
  The statement TraceBack walked: what is written of any trace is read back alike.
-/
import Derived.Test.YtiokbebodblhaaaGreatDoorTraceJn
import Derived.Test.YtiokbebodblhaaaGreatDoorTraceSp
import Derived.Test.YtiokbebodblhaaaGreatDoorTraceDe
import Derived.Test.YtiokbebodblhaaaGreatDoorTAl
namespace Go.Proofs.YtiokbebodblhaaaGreatDoor
open Go.RowKit TraceP
attribute [local go_sem] Row.val

theorem evtP_shortB {e : Evt} (h : EvtP e) : ShortE e := ⟨h.object, h.req, h.met, h.ans, h.fet, h.rep, h.bytes, h.keys⟩
theorem joinL_len : ∀ {l : List Evt}, (∀ e ∈ l, (lineT e).length ≤ 65536) → (joinL l).length ≤ 65537 * l.length
  | [], _ => by simp [joinL]
  | e :: l, h => by
    have h1 := joinL_len fun x hx => h x (List.mem_cons_of_mem e hx)
    have h2 := h e (by simp)
    have ej : joinL (e :: l) = lineT e ++ [10] ++ joinL l := by simp [joinL]
    rw [ej]
    simp only [List.length_append, List.length_cons, List.length_nil]
    omega
set_option maxRecDepth 100000 in
set_option maxHeartbeats 3200000 in
theorem traceBack_walk (W : World) (hT : Std W) (A : Option Addr) (c : Nat) (l : List EvtR) (h : RV W A (fl EvtR.cells l) ∧ l.length ≤ c ∧ c ≤ 9223372036854775807 ∧ l.length ≤ 1048576 ∧ ∀ e ∈ l, EvtOK W e ∧ BigE e.abs) :
    Calls Tryz.prog 9 #[.slice A l.length c] W fun e w' => e = .returned (.bool true) ∧ Below W.heap.size W w' := by
  have r0 : EvsOK W A l c := ⟨h.1, h.2.1, h.2.2.1, fun e he => (h.2.2.2.2 e he).1⟩
  have g0 := Lib.hid fun e he => (h.2.2.2.2 e he).2
  clear h
  have AL := alive_calls W hT
  go_enter Tryz.func9, Tryz.ntmps9
  go_upto_region 3 with (go_at_call 11; refine AL.mono ?_; rintro _ w1 ⟨rfl, B1⟩; clear AL)
  have SC := small_calls w1 A c l (r0.below B1) g0.out 30 (by omega)
  with_reducible refine wp_region_lit ?_
  with_reducible refine wpList_cutAt 2 ?_
  simp only [List.take_succ_cons, List.take_zero, List.drop_succ_cons, List.drop_zero]
  go_wp2_with (go_at_call 12; refine SC.mono ?_; rintro _ w2 ⟨q, rfl, hs, d2⟩; clear SC)
  with_reducible refine CutQ.go_ ?_
  have B2 := B1.trans (d2.mono B1.size)
  clear B1 d2
  cases q
  · go_wp2_with fail
    go_ret
    exact ⟨rfl, B2⟩
  have lm : l.length ≤ 30 := (hs rfl).1
  have sx : Hid (∀ e ∈ l, ShortE e.abs) := Lib.hid fun e he => ((hs rfl).2 e he).short ((r0.ok e he).evtI)
  clear hs g0
  obtain ⟨jT, hjT⟩ : ∃ x, x = joinT (absL l) := ⟨_, rfl⟩
  obtain ⟨jE, hjE⟩ : ∃ x, x = joinE (absL l) := ⟨_, rfl⟩
  have JC := pjoin_calls w2 (hT.below B2) A c l (r0.below B2) sx.out (by omega)
  rw [← hjT, ← hjE] at JC
  replace hjT := Lib.hid hjT
  replace hjE := Lib.hid hjE
  replace lm := Lib.hid lm
  go_upto_region 7 with (go_at_call 24; refine JC.mono ?_; rintro _ w3 ⟨rfl, d3⟩; have B3 := B2.trans (d3.mono B2.size); clear JC d3 B2)
  go_upto_region 8 with fail
  have lmax : l.length ≤ 9223372036854775807 := Nat.le_trans r0.le r0.cap
  go_loopw [5, 27] (fun sv i wr => ∃ k : Nat, k ≤ l.length ∧ i = .int .i64 (k : Int) ∧ sv = .string (bstr (joinL ((absL l).take k))) ∧ Hid (jE = joinE ((absL l).drop k)) ∧ Hid (∀ e ∈ (absL l).take k, RightE e ∧ (lineT e).length ≤ 65536) ∧ Below W.heap.size W wr) (fun _ i _ => l.length - (intOf i).toNat)
  case atStart => exact ⟨0, by omega, rfl, rfl, Lib.hid (by simpa using hjE.out), Lib.hid (by simp), B3⟩
  case round =>
  clear B3
  obtain ⟨k, hk, rfl, rfl, hR, hG, B⟩ := hrel
  have hwr := B.size
  by_cases hlt : k < l.length
  case neg =>
    obtain rfl : k = l.length := by omega
    have dec : decide ((l.length : Int) < (l.length : Int)) = false := decide_eq_false (by omega)
    have tk : (absL l).take l.length = absL l := List.take_of_length_le (by rw [absL_len]; exact Nat.le_refl _)
    have e0 : jE = 0 := by
      rw [hR.out, List.drop_eq_nil_of_le (by rw [absL_len]; exact Nat.le_refl _)]
      rfl
    have e1 : jT = joinL (absL l) := by
      rw [hjT.out, joinT_ok (by rw [← hjE.out, e0])]
    rw [tk] at hG ⊢
    have hG2 : ∀ e ∈ absL l, RightE e ∧ EvtI e ∧ (lineT e).length ≤ 65536 := fun e he => by
      obtain ⟨x, hx, rfl⟩ := List.mem_map.1 he
      exact ⟨(hG.out _ he).1, (r0.ok x hx).evtI, (hG.out _ he).2⟩
    have hJ := split_join (absL l) [] hG2
    rw [List.nil_append] at hJ
    have hlJ : (joinL (absL l)).length ≤ 100000000 := by
      have := joinL_len fun e he => (hG2 e he).2.2
      rw [absL_len] at this
      have := lm.out
      omega
    have SC := split2_calls wr (hT.below B) (joinL (absL l)) hlJ
    rw [hJ] at SC
    clear hR hjT hjE hG hG2 hJ hlJ tk
    subst e0
    rw [e1]
    clear e1
    generalize joinL (absL l) = J at *
    clear jT
    go_upto_region 19 with (go_at_call 22; refine SC.mono ?_; rintro _ w4 ⟨v, m, rfl, hm, X, d4⟩; clear SC)
    have B4 := B.trans (d4.mono B.size)
    have r4 := r0.below B4
    have hx := fun e he => evtP_shortB (X.x e he).2
    obtain ⟨A', c', rfl, OK⟩ := X.ok
    have C1 := dsame_calls w4 A' A c' c m l OK r4 hx sx.out
    have C2 := fun w5 (d5 : Below w4.heap.size w4 w5) => same_calls w5 A' A c' c m l (OK.below d5) (r4.below d5)
    rw [sm_true hm] at C1
    have C3 : ∀ w5, Below w4.heap.size w4 w5 → Calls Tryz.prog 18 #[.slice A' m.length c', .slice A l.length c] w5 fun e w' => e = .returned (.bool true) ∧ Below w5.heap.size w5 w' := fun w5 d5 => by
      have := C2 w5 d5
      rw [sm_true hm] at this
      exact this
    clear C2 hm X hx d4 B
    have e1 : ((bstr J).toList == (bstr J).toList) = true := beq_iff_eq.2 rfl
    go_wp2_with (first | (go_at_call 19; refine C1.mono ?_; rintro _ w5 ⟨rfl, d5⟩; clear C1) | (go_at_call 18; refine (C3 _ d5).mono ?_; rintro _ w6 ⟨rfl, d6⟩; clear C3))
    go_ret
    exact ⟨rfl, (B4.trans (d5.mono B4.size)).trans (d6.mono (B4.trans (d5.mono B4.size)).size)⟩
  have dec : decide ((k : Int) < (l.length : Int)) = true := decide_eq_true (by omega)
  have dec' : decide (k < l.length) = true := decide_eq_true hlt
  obtain ⟨b, off, rfl, hbs, hc⟩ := evt_at (r0.rv.below B) hlt
  have ht := absL_take hlt
  have hd := absL_dropJ hlt
  have ox := (r0.ok _ (List.getElem_mem hlt)).below B
  have sxx := sx.out _ (List.getElem_mem hlt)
  generalize l[k] = x at *
  have hR1 : jE = if textE x.abs = 0 then joinE ((absL l).drop (k + 1)) else textE x.abs := by rw [hR.out, hd, joinE]
  have hJ : joinL ((absL l).take (k + 1)) = joinL ((absL l).take k) ++ lineT x.abs ++ [10] := by rw [ht, joinL_app]
  have hG1 : RightE x.abs ∧ (lineT x.abs).length ≤ 65536 → ∀ e ∈ (absL l).take (k + 1), RightE e ∧ (lineT e).length ≤ 65536 := fun q e he => by
    rw [ht] at he
    rcases List.mem_append.1 he with he | he
    · exact hG.out e he
    · rw [List.mem_singleton.1 he]; exact q
  have hJl : (joinL ((absL l).take k)).length ≤ 65537 * 30 := by
    have h1 := joinL_len fun e he => (hG.out e he).2
    have := lm.out
    rw [List.length_take] at h1
    omega
  clear ht hd hR hG
  replace hR1 := Lib.hid hR1
  replace hJ := Lib.hid hJ
  replace hG1 := Lib.hid hG1
  generalize joinL ((absL l).take k) = J at *
  go_upto_region 9 with fail
  with_reducible refine wp_region_lit ?_
  with_reducible refine wpList_cutAt 1 ?_
  simp only [List.take_succ_cons, List.take_zero, List.drop_succ_cons, List.drop_zero]
  go_wp2_with fail
  with_reducible refine CutQ.go_ ?_
  with_reducible refine wpList_load_mid rfl 45 (.tmp 29) rfl b (off + k * 57) (by kernel_rfl) x.cells _ hc Tryz.underlying45 (by kernel_rfl) (by kernel_rfl) ?_
  go_frame
  with_reducible refine wpList_cutAt 1 ?_
  simp only [List.take_succ_cons, List.take_zero, List.drop_succ_cons, List.drop_zero]
  repeat (first | go_values | go_skip | go_guarded | go_step | go_upon)
  with_reducible refine CutQ.go_ ?_
  with_reducible refine wpList_abs (fun w' => Blk w' wr.heap.size 45 zEvtR.cells.toArray ∧ Below wr.heap.size wr w') ?_ ?_
  · exact ⟨Blk.new wr 45 zEvtR.cells.toArray, below_new wr (.cells zEvtR.cells.toArray 45)⟩
  rintro wA0 ⟨bE0, dE0⟩
  have bE' : wA0.heap[wr.heap.size]? = some (Obj.cells zEvtR.cells.toArray 45) := bE0
  with_reducible refine wpList_store_row rfl 45 (.tmp 7) (.tmp 30) rfl wr.heap.size x.cells.toArray (by kernel_rfl) (by kernel_rfl) 45 zEvtR.cells.toArray bE' (by kernel_rfl) (by kernel_rfl) (by kernel_rfl) (wpList_nil ?_)
  have bE := bE0.setRow_ x.cells.toArray
  have dE := below_setRow dE0 (Nat.le_refl _) x.cells.toArray
  revert bE dE
  generalize wA0.setRow wr.heap.size x.cells.toArray = wA
  clear bE' bE0 dE0 wA0
  intro bE dE
  simp only [Act.put]
  have BA := B.trans (dE.mono B.size)
  have oxA := ox.below dE
  clear hc hbs ox dE B
  go_upto_region 10 with fail
  have TC := tx_calls x wA (hT.below BA) oxA (line_fits sxx oxA)
  have bE' : wA.heap[wr.heap.size]? = some (Obj.cells x.cells.toArray 45) := bE
  with_reducible refine wp_region_lit ?_
  with_reducible refine wpList_load_row rfl 45 (.tmp 7) rfl wr.heap.size (by kernel_rfl) 45 x.cells.toArray (0, 0) _ bE' Tryz.underlying45 (by kernel_rfl) (by kernel_rfl) ?_
  go_frame
  clear bE'
  go_upto_region 11 with (go_at_call 13; refine TC.mono ?_; rintro _ w2 ⟨hr0, d2⟩; unfold RetTx at hr0; subst hr0; clear TC)
  have B2 := BA.trans (d2.mono BA.size)
  have bE2 := bE.below d2 bE.lt
  have ox2 := oxA.below d2
  clear bE d2 oxA BA
  by_cases hE : textE x.abs = 0
  case neg =>
    have ne : (textE x.abs != 0) = true := bne_iff_ne.2 hE
    have hR2 := hR1.out
    rw [if_neg hE] at hR2
    have hT2 : jT = [] := by
      rw [hjT.out]
      exact joinT_no (by rw [← hjE.out, hR2]; exact hE)
    clear hR1 hJ hjT hjE hG1 bE2 ox2
    rw [hR2, hT2]
    have e2 : (bstr []).toList.isEmpty = true := by rw [bstr_list]; rfl
    have e3 : (textE x.abs == textE x.abs) = true := beq_iff_eq.2 rfl
    clear hR2 hT2 hE
    generalize textE x.abs = te at *
    generalize textT x.abs = tt at *
    go_wp2_with fail
    go_ret
    exact ⟨rfl, B2⟩
  obtain ⟨rx, lx, tx⟩ := textE_ok hE
  have hR2 := hR1.out
  rw [if_pos hE] at hR2
  replace hR2 := Lib.hid hR2
  have hG2 := Lib.hid (hG1.out ⟨rx, lx⟩)
  have hpe := parE_line rx ox2.evtI lx
  have hpn : parN (lineT x.abs) = 0 := by unfold parN; rw [hpe]; rfl
  have hpp : EvtP x.abs := parE_P hpe
  rw [hE, tx]
  clear hR1 tx hE rx hG1
  have PC : Calls Tryz.prog 15 #[.string (bstr (lineT x.abs))] w2 fun r w' => ∃ e : EvtR, r = .returned (.tuple #[.agg e.cells.toArray, .int .i64 0]) ∧ e.abs = x.abs ∧ EvtOK w' e ∧ Below w2.heap.size w2 w' := (parse_calls w2 (hT.below B2) (lineT x.abs)).mono fun r w' => by
    rintro ⟨e, h1, h2, h3, h4⟩
    rw [hpn] at h1
    rw [hpe] at h2
    have h5 : e.abs = x.abs := h2
    exact ⟨e, h1, h5, h3.ok (by rw [h5]; exact hpp), h4⟩
  clear hpn hpe
  have c0 : ((0 : Int) != 0) = false := rfl
  go_upto_region 13 with fail
  with_reducible refine wp_region_lit ?_
  with_reducible refine wpList_cutAt 5 ?_
  simp only [List.take_succ_cons, List.take_zero, List.drop_succ_cons, List.drop_zero]
  go_wp2_with (go_at_call 15; refine PC.mono ?_; rintro _ w3 ⟨y, rfl, hy, oy, d3⟩; clear PC)
  with_reducible refine CutQ.go_ ?_
  with_reducible refine wpList_cutAt 1 ?_
  simp only [List.take_succ_cons, List.take_zero, List.drop_succ_cons, List.drop_zero]
  repeat (first | go_values | go_skip | go_guarded | go_step | go_upon)
  with_reducible refine CutQ.go_ ?_
  have B3 := B2.trans (d3.mono B2.size)
  have bE3 := bE2.below d3 bE2.lt
  have ox3 := ox2.below d3
  clear d3 B2 bE2 ox2
  with_reducible refine wpList_abs (fun w' => Blk w' w3.heap.size 45 zEvtR.cells.toArray ∧ Below w3.heap.size w3 w') ?_ ?_
  · exact ⟨Blk.new w3 45 zEvtR.cells.toArray, below_new w3 (.cells zEvtR.cells.toArray 45)⟩
  rintro wB0 ⟨bF0, dF0⟩
  have bF' : wB0.heap[w3.heap.size]? = some (Obj.cells zEvtR.cells.toArray 45) := bF0
  with_reducible refine wpList_store_row rfl 45 (.tmp 10) (.tmp 48) rfl w3.heap.size y.cells.toArray (by kernel_rfl) (by kernel_rfl) 45 zEvtR.cells.toArray bF' (by kernel_rfl) (by kernel_rfl) (by kernel_rfl) ?_
  have bF := bF0.setRow_ y.cells.toArray
  have dF := below_setRow dF0 (Nat.le_refl _) y.cells.toArray
  revert bF dF
  generalize wB0.setRow w3.heap.size y.cells.toArray = w4
  clear bF' bF0 dF0 wB0
  intro bF dF
  simp only [Act.put]
  have B4 := B3.trans (dF.mono B3.size)
  have bE4 := bE3.below dF bE3.lt
  have ox4 := ox3.below dF
  have oy4 := oy.below dF
  clear bE3 ox3 oy dF B3
  go_upto_region 14 with fail
  have AC := dalike_calls w4 x y ox4 oy4 sxx (by rw [hy]; exact sxx)
  rw [sm_true hy.symm] at AC
  have bE4' : w4.heap[wr.heap.size]? = some (.cells x.cells.toArray 45 (0, 0)) := bE4
  have bF4' : w4.heap[w3.heap.size]? = some (.cells y.cells.toArray 45 (0, 0)) := bF
  clear hy ox4 oy4 bE4 bF
  with_reducible refine wp_region_lit ?_
  with_reducible refine wpList_cutAt 3 ?_
  simp only [List.take_succ_cons, List.take_zero, List.drop_succ_cons, List.drop_zero]
  repeat (first | go_values | go_skip | go_guarded | go_step | go_upon)
  with_reducible refine CutQ.go_ ?_
  with_reducible refine wpList_one (by kernel_rfl) (fun Ka hKa => ?_)
  refine wp_load_row 45 (.tmp 7) rfl wr.heap.size (by kernel_rfl) 45 x.cells.toArray (0, 0) _ bE4' Tryz.underlying45 (by kernel_rfl) (by kernel_rfl) ?_
  refine hKa _ _ ?_
  clear hKa Ka
  go_frame
  with_reducible refine wpList_one (by kernel_rfl) (fun Kb hKb => ?_)
  refine wp_load_row 45 (.tmp 10) rfl w3.heap.size (by kernel_rfl) 45 y.cells.toArray (0, 0) _ bF4' Tryz.underlying45 (by kernel_rfl) (by kernel_rfl) ?_
  refine hKb _ _ ?_
  clear hKb Kb bE4' bF4'
  go_frame
  have hJ2 := hJ.out
  replace hJ2 := Lib.hid hJ2
  have hlx : (lineT x.abs).length ≤ 65536 := lx
  clear hJ lx
  generalize lineT x.abs = tl at *
  have z1 : ¬ 9223372036854775807 < (bstr tl).size + 1 := by rw [bstr_size]; omega
  have z2 : ¬ 9223372036854775807 < (bstr J).size + ((bstr tl).size + 1) := by rw [bstr_size, bstr_size]; omega
  go_wp2_with (go_at_call 17; refine AC.mono ?_; rintro _ w5 ⟨rfl, d5⟩; clear AC)
  go_roundw
  case rel => exact ⟨k + 1, by omega, by go_num, by rw [hJ2.out, ← bstr_add, ← bstr_add, ByteArray.append_assoc]; rfl, hR2, hG2, B4.trans (d5.mono B4.size)⟩
  case measure => simp [intOf]; omega
end Go.Proofs.YtiokbebodblhaaaGreatDoor
