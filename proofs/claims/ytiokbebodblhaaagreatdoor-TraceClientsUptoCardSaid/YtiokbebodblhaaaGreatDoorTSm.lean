/-
  Walks: slices.EqualFunc at events, Same. Printed by samegen.py.
-/
import Derived.Test.YtiokbebodblhaaaGreatDoorTracePs
import Derived.Maps.OwnSet
import Derived.Maps.OwnOps
import Derived.DeepKeys4
namespace Go.Proofs.YtiokbebodblhaaaGreatDoor
open Go.RowKit TraceP

theorem rangeAt_below {w w' : World} {b o : Nat} {cs : List Value} (h : w.rangeAt b o cs) (hb : b < w.heap.size) (d : Below w.heap.size w w') : w'.rangeAt b o cs := fun j v hv => (d.cell (p := ⟨b, o + j, none⟩) hb).trans (h j v hv)
/-- An event of a row. -/
theorem evt_at {w : World} {A : Option Addr} {l : List EvtR} (h : RV w A (fl EvtR.cells l)) {k : Nat} (hk : k < l.length) : ∃ b off, A = some ⟨b, off, none⟩ ∧ b < w.heap.size ∧ w.rangeAt b (off + k * 57) l[k].cells := by
  obtain ⟨b, off, e, hb, h2⟩ := fl_elem EvtR.cells_len (by decide) h hk
  exact ⟨b, off, e, hb, fun j v hv => by have := h2 j v hv; rwa [← Nat.add_assoc] at this⟩
/-- Events that lie in a row. -/
structure EvsOK (w : World) (A : Option Addr) (l : List EvtR) (c : Nat) : Prop where
  rv : RV w A (fl EvtR.cells l)
  le : l.length ≤ c
  cap : c ≤ 9223372036854775807
  ok : ∀ e ∈ l, EvtOK w e
theorem EvsOK.below {w w' : World} {A : Option Addr} {l : List EvtR} {c : Nat} (h : EvsOK w A l c) (d : Below w.heap.size w w') : EvsOK w' A l c := ⟨h.rv.below d, h.le, h.cap, fun e he => (h.ok e he).below d⟩
def absL (l : List EvtR) : List Evt := l.map EvtR.abs
theorem absL_len (l : List EvtR) : (absL l).length = l.length := List.length_map ..
theorem absL_take {l : List EvtR} {k : Nat} (h : k < l.length) : (absL l).take (k + 1) = (absL l).take k ++ [l[k].abs] := by
  unfold absL
  rw [← List.map_take, List.take_succ_eq_append_getElem h, List.map_append, List.map_take]
  rfl

theorem ne_step {X Y : List Evt} {k : Nat} {a b : Evt} (h : X.take k = Y.take k) (h1 : X.take (k + 1) = X.take k ++ [a]) (h2 : Y.take (k + 1) = Y.take k ++ [b]) (hn : a ≠ b) : X ≠ Y := fun e => by
  subst e
  rw [h1] at h2
  have := List.append_cancel_left h2
  injection this with e1
  exact hn e1
set_option maxRecDepth 100000 in
set_option maxHeartbeats 3200000 in
theorem eqf_calls (w : World) (A A' : Option Addr) (c c' : Nat) (l l' : List EvtR) (hr : EvsOK w A l c) (hr' : EvsOK w A' l' c') :
    Calls Tryz.prog 49 #[.slice A l.length c, .slice A' l'.length c', .func (.func 50) #[] #[]] w fun e w' => e = .returned (.bool (sm (absL l) (absL l'))) ∧ Below w.heap.size w w' := by
  by_cases hl : l.length = l'.length
  · have dl : ((l.length : Int) == (l'.length : Int)) = true := beq_iff_eq.2 (by omega)
    have dl2 : ((l.length : Int) != (l'.length : Int)) = false := by rw [bne, dl]; rfl
    have lmax : l.length ≤ 9223372036854775807 := Nat.le_trans hr.le hr.cap
    replace hl := Lib.hid hl
    go_enter Tryz.func49, Tryz.ntmps49
    go_wp2_with fail
    go_loopw [17] (fun i wr => ∃ k : Nat, k ≤ l.length ∧ i = .int .i64 (k : Int) ∧ Hid ((absL l).take k = (absL l').take k) ∧ Below w.heap.size w wr) (fun i _ => l.length - (intOf i).toNat)
    case atStart => exact ⟨0, by omega, rfl, Lib.hid rfl, Below.refl _ _⟩
    case round =>
      obtain ⟨k, hk, rfl, ht, B⟩ := hrel
      by_cases hlt : k < l.length
      · have dec : decide ((k : Int) < (l.length : Int)) = true := decide_eq_true (by omega)
        have dec' : decide (k < l.length) = true := decide_eq_true hlt
        have hlt' : k < l'.length := by have := hl.out; omega
        have dec3 : decide ((k : Int) < (l'.length : Int)) = true := decide_eq_true (by omega)
        have dec3' : decide (k < l'.length) = true := decide_eq_true (by omega)
        obtain ⟨b, off, rfl, hbs, hc⟩ := evt_at (hr.rv.below B) hlt
        obtain ⟨b', off', rfl, hbs', hc'⟩ := evt_at (hr'.rv.below B) hlt'
        have t1 := Lib.hid (absL_take hlt)
        have t2 := Lib.hid (absL_take hlt')
        have ox := ((hr.ok _ (List.getElem_mem hlt)).below B)
        have oy := ((hr'.ok _ (List.getElem_mem hlt')).below B)
        generalize l[k] = x at *
        generalize l'[k] = y at *
        go_upto_region 5 with fail
        with_reducible refine wp_region_lit ?_
        with_reducible refine wpList_cutAt 2 ?_
        simp only [List.take_succ_cons, List.take_zero, List.drop_succ_cons, List.drop_zero]
        go_wp2_with fail
        with_reducible refine CutQ.go_ ?_
        with_reducible refine wpList_load_mid rfl 45 (.tmp 20) rfl b (off + k * 57) (by kernel_rfl) x.cells _ hc Tryz.underlying45 (by kernel_rfl) (by kernel_rfl) ?_
        go_frame
        with_reducible refine wpList_cutAt 2 ?_
        simp only [List.take_succ_cons, List.take_zero, List.drop_succ_cons, List.drop_zero]
        repeat (first | go_values | go_skip | go_guarded | go_step | go_upon)
        with_reducible refine CutQ.go_ ?_
        with_reducible refine wpList_abs (fun w' => Blk w' wr.heap.size 45 zEvtR.cells.toArray ∧ Below wr.heap.size wr w') ?_ ?_
        · exact ⟨Blk.new wr 45 zEvtR.cells.toArray, below_new wr (.cells zEvtR.cells.toArray 45)⟩
        rintro wA0 ⟨bE0, dE0⟩
        have bE' : wA0.heap[wr.heap.size]? = some (Obj.cells zEvtR.cells.toArray 45) := bE0
        with_reducible refine wpList_store_row rfl 45 (.tmp 8) (.tmp 21) rfl wr.heap.size x.cells.toArray (by kernel_rfl) (by kernel_rfl) 45 zEvtR.cells.toArray bE' (by kernel_rfl) (by kernel_rfl) (by kernel_rfl) (wpList_nil ?_)
        have bE := bE0.setRow_ x.cells.toArray
        have dE := below_setRow dE0 (Nat.le_refl _) x.cells.toArray
        revert bE dE
        generalize wA0.setRow wr.heap.size x.cells.toArray = wA
        clear bE' bE0 dE0 wA0
        intro bwA dwA
        simp only [Act.put]
        go_upto_region 6 with fail
        have hc2 := rangeAt_below hc' hbs' dwA
        with_reducible refine wp_region_lit ?_
        with_reducible refine wpList_cutAt 3 ?_
        simp only [List.take_succ_cons, List.take_zero, List.drop_succ_cons, List.drop_zero]
        go_wp2_with fail
        with_reducible refine CutQ.go_ ?_
        with_reducible refine wpList_load_mid rfl 45 (.tmp 24) rfl b' (off' + k * 57) (by kernel_rfl) y.cells _ hc2 Tryz.underlying45 (by kernel_rfl) (by kernel_rfl) ?_
        go_frame
        with_reducible refine wpList_cutAt 1 ?_
        simp only [List.take_succ_cons, List.take_zero, List.drop_succ_cons, List.drop_zero]
        repeat (first | go_values | go_skip | go_guarded | go_step | go_upon)
        with_reducible refine CutQ.go_ ?_
        with_reducible refine wpList_abs (fun w' => Blk w' wA.heap.size 45 zEvtR.cells.toArray ∧ Below wA.heap.size wA w') ?_ ?_
        · exact ⟨Blk.new wA 45 zEvtR.cells.toArray, below_new wA (.cells zEvtR.cells.toArray 45)⟩
        rintro wB0 ⟨bE0, dE0⟩
        have bE' : wB0.heap[wA.heap.size]? = some (Obj.cells zEvtR.cells.toArray 45) := bE0
        with_reducible refine wpList_store_row rfl 45 (.tmp 9) (.tmp 25) rfl wA.heap.size y.cells.toArray (by kernel_rfl) (by kernel_rfl) 45 zEvtR.cells.toArray bE' (by kernel_rfl) (by kernel_rfl) (by kernel_rfl) (wpList_nil ?_)
        have bE := bE0.setRow_ y.cells.toArray
        have dE := below_setRow dE0 (Nat.le_refl _) y.cells.toArray
        revert bE dE
        generalize wB0.setRow wA.heap.size y.cells.toArray = wB
        clear bE' bE0 dE0 wB0
        intro bwB dwB
        simp only [Act.put]
        go_upto_region 7 with fail
        have bA := bwA.below dwB bwA.lt
        have bA' : wB.heap[wr.heap.size]? = some (Obj.cells x.cells.toArray 45) := bA
        have bB' : wB.heap[wA.heap.size]? = some (Obj.cells y.cells.toArray 45) := bwB
        have BB := (B.trans (dwA.mono B.size)).trans (dwB.mono (Nat.le_trans B.size dwA.size))
        have C := alike_calls wB x y ((ox.below dwA).below dwB) ((oy.below dwA).below dwB)
        with_reducible refine wp_region_lit ?_
        with_reducible refine wpList_cutAt 1 ?_
        simp only [List.take_succ_cons, List.take_zero, List.drop_succ_cons, List.drop_zero]
        repeat (first | go_values | go_skip | go_guarded | go_step | go_upon)
        with_reducible refine CutQ.go_ ?_
        with_reducible refine wpList_load_row rfl 45 (.tmp 8) rfl wr.heap.size (by kernel_rfl) 45 x.cells.toArray (0, 0) _ bA' Tryz.underlying45 (by kernel_rfl) (by kernel_rfl) ?_
        go_frame
        with_reducible refine wpList_load_row rfl 45 (.tmp 9) rfl wA.heap.size (by kernel_rfl) 45 y.cells.toArray (0, 0) _ bB' Tryz.underlying45 (by kernel_rfl) (by kernel_rfl) ?_
        go_frame
        clear bA bA' bB' bwA bwB dwA dwB hc hc' hc2 ox oy hbs hbs'
        by_cases hxy : x.abs = y.abs
        · rw [sm_true hxy] at C
          go_wp2_with (go_at_call 50; refine C.mono ?_; rintro _ wC ⟨rfl, dC⟩; have BC := BB.trans (dC.mono BB.size); clear C dC)
          go_roundw
          case rel => exact ⟨k + 1, by omega, by go_num, Lib.hid (by rw [t1.out, t2.out, ht.out, hxy]), BC⟩
          case measure => simp [intOf]; omega
        · rw [sm_false hxy] at C
          go_wp2_with (go_at_call 50; refine C.mono ?_; rintro _ wC ⟨rfl, dC⟩; have BC := BB.trans (dC.mono BB.size); clear C dC)
          go_ret
          refine ⟨?_, BC⟩
          rw [sm_false (ne_step ht.out t1.out t2.out hxy)]
          rfl
      · obtain rfl : k = l.length := by omega
        have dec : decide ((l.length : Int) < (l.length : Int)) = false := decide_eq_false (by omega)
        have he := ht.out
        rw [← absL_len l, List.take_length, absL_len l, hl.out, ← absL_len l', List.take_length] at he
        replace he := Lib.hid he
        go_wp2_with fail
        go_ret
        exact ⟨by rw [sm_true he.out]; rfl, B⟩
  · have dl : ((l.length : Int) == (l'.length : Int)) = false := beq_eq_false_iff_ne.2 (by omega)
    have dl2 : ((l.length : Int) != (l'.length : Int)) = true := by rw [bne, dl]; rfl
    have hs : sm (absL l) (absL l') = false := sm_false fun e => hl (by rw [← absL_len l, ← absL_len l', e])
    go_enter Tryz.func49, Tryz.ntmps49
    go_wp2_with fail
    go_ret
    exact ⟨by rw [hs]; rfl, Below.refl _ _⟩
theorem same_calls (w : World) (A A' : Option Addr) (c c' : Nat) (l l' : List EvtR) (hr : EvsOK w A l c) (hr' : EvsOK w A' l' c') :
    Calls Tryz.prog 18 #[.slice A l.length c, .slice A' l'.length c'] w fun e w' => e = .returned (.bool (sm (absL l) (absL l'))) ∧ Below w.heap.size w w' := by
  go_enter Tryz.func18, Tryz.ntmps18
  go_wp2_with (go_at_call 49; refine (eqf_calls w A A' c c' l l' hr hr').mono ?_; rintro _ w1 ⟨rfl, d1⟩)
  go_ret
  exact ⟨rfl, d1⟩
end Go.Proofs.YtiokbebodblhaaaGreatDoor
namespace Go.Proofs.YtiokbebodblhaaaGreatDoor
open Go.RowKit TraceP Go.Maps

theorem place_law : Keyed Tryz.prog 121 := Keyed.of_law (deep_law_laid (by kernel_rfl) (m := 2) (by omega) (of_decide_eq_true (by kernel_rfl)) (by kernel_rfl) (by kernel_rfl))
theorem place_key : ∃ kl, keyOf Tryz.prog 121 (.agg #[.int .i64 0, .int .i64 3]) = some kl := Option.isSome_iff_exists.1 (by kernel_rfl)
theorem zero_int (w : World) : (zeroValue 3).run Tryz.prog w = .ok (.int .i64 0) w := by kernel_rfl
abbrev OMap (w : World) (b n : Nat) (D : DataW Unit) : Prop := w.ownsMap Tryz.prog 121 (plainElem Tryz.prog 3) b n D
theorem answers_ask (w : World) (x : EvtR) (hk : x.kind = 6) (hn : x.node = 0) (hw : x.who = 3) (sb mw : Nat) (v0 v1 v3 v4 : Value) (bs : Blk w sb 107 #[v0, v1, .map (some mw), v3, v4]) (hm : OMap w mw 0 (.map [])) :
    Calls Tryz.prog 105 #[.pointer (some ⟨sb, 0, none⟩), .agg x.cells.toArray] w fun e w' => e = .returned (.bool true) ∧ Kept (fun k => k = mw) w w' := by
  obtain ⟨kl, hkl⟩ := place_key
  have bE := Blk.new w 45 x.cells.toArray
  have B0 := below_new w (.cells x.cells.toArray 45)
  have hm0 := hm.alloc (.cells x.cells.toArray 45)
  have bs0 := bs.alloc (.cells x.cells.toArray 45)
  have hlt := hm.lt
  have hsl := bs.lt
  go_enter Tryz.func105, Tryz.ntmps105
  go_upto_region 1 with (fail)
  with_reducible refine code_abs (fun w' => Blk w' w.heap.size 45 x.cells.toArray ∧ Below w.heap.size w w' ∧ OMap w' mw 0 (.map []) ∧ Blk w' sb 107 #[v0, v1, .map (some mw), v3, v4]) ?_ ?_
  · exact ⟨bE, B0, hm0, bs0⟩
  clear bE B0 hm0 bs0
  rintro w1 ⟨bE, B1, hm1, bs1⟩
  have e2 := bE.at_ (i := 2) (v := .int .i64 0) (by rw [← hn]; rfl)
  have e3 := bE.at_ (i := 3) (v := .int .i64 3) (by rw [← hw]; rfl)
  go_upto_region 2 with (fail)
  with_reducible refine code_abs (fun w' => Blk w' w.heap.size 45 x.cells.toArray ∧ Below w.heap.size w w' ∧ OMap w' mw 0 (.map []) ∧ Blk w' sb 107 #[v0, v1, .map (some mw), v3, v4] ∧ Blk w' w1.heap.size 121 #[.int .i64 0, .int .i64 3]) ?_ ?_
  · exact ⟨bE.alloc _, B1.trans ((below_new w1 _).mono B1.size), hm1.alloc _, bs1.alloc _, Blk.new w1 _ _⟩
  clear bE B1 hm1 bs1 e2 e3
  rintro w2 ⟨bE, B2, hm2, bs2, bP⟩
  have s2 := bs2.drew.at_ (i := 2) (v := .map (some mw)) rfl
  have p0 := bP.drew.at_ (i := 0) (v := .int .i64 0) rfl
  have p1 := bP.drew.at_ (i := 1) (v := .int .i64 3) rfl
  obtain ⟨c, hrun, hat, _⟩ := hm2.drew.lookup_int place_law Tryz.underlying104 Tryz.underlying3 (zero_int _) hkl
  obtain rfl : c = 0 := by simp [DataW.atKey] at hat; exact hat.symm
  go_region
  go_upto_region 3 with (fail)
  with_reducible refine code_abs (fun w' => Blk w' w.heap.size 45 x.cells.toArray ∧ Below w.heap.size w w' ∧ OMap w' mw 0 (.map []) ∧ Blk w' sb 107 #[v0, v1, .map (some mw), v3, v4] ∧ Blk w' w1.heap.size 121 #[.int .i64 0, .int .i64 3]) ?_ ?_
  · exact ⟨bE.drew, B2.drew, hm2.drew, bs2.drew, bP.drew⟩
  clear bE B2 hm2 bs2 bP s2 p0 p1 hrun hat w2
  rintro w2 ⟨bE, B2, hm2, bs2, bP⟩
  have e0 := bE.at_ (i := 0) (v := .int .i64 6) (by rw [← hk]; rfl)
  go_upto_region 5 with (fail)
  have s2 := bs2.drew.at_ (i := 2) (v := .map (some mw)) rfl
  have p0 := bP.drew.at_ (i := 0) (v := .int .i64 0) rfl
  have p1 := bP.drew.at_ (i := 1) (v := .int .i64 3) rfl
  have hz : (0 : Nat) < maxLen := by unfold maxLen; omega
  have hwf : (Lit.int .i64 1).wf = true := WalkArith.wf_i64 (by omega)
  obtain ⟨w3, hrun, hm3, gr⟩ := hm2.drew.update place_law Tryz.underlying104 hz (key := .agg #[.int .i64 0, .int .i64 3]) (val := .int .i64 1) hkl (plainElem_int Tryz.underlying3 hwf)
  go_region
  go_wp2
  go_ret
  exact ⟨rfl, ((Kept.of_below B2 _).drew.grown gr (fun k hk => .inl (Option.some.inj hk).symm))⟩
end Go.Proofs.YtiokbebodblhaaaGreatDoor
