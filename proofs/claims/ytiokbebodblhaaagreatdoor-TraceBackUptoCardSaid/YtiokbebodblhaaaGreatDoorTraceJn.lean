/-
  Walk: Join: a trace's text, or why there is none.
-/
import Derived.Test.YtiokbebodblhaaaGreatDoorTSmf
import Derived.Test.YtiokbebodblhaaaGreatDoorTPlain
import Derived.Test.YtiokbebodblhaaaGreatDoorTWri
import Derived.Test.YtiokbebodblhaaaGreatDoorTPl
import Derived.Deep.Cut
namespace Go.Proofs.YtiokbebodblhaaaGreatDoor
open Go.RowKit TraceP Go.Shelf
attribute [local go_sem] Row.val

theorem lays166 : Go.Proofs.Lays.n166 Tryz.prog bren := { Tryz.lays156 with
  f166 := Tryz.func54.trans (congrArg some (by kernel_rfl))
  f240 := Tryz.func111.trans (congrArg some (by kernel_rfl))
  f276 := Tryz.func141.trans (congrArg some (by kernel_rfl)) }
theorem strCells_b (l : Txt) : Lib.strCells (bstr l) = Lib.byteCells l := by
  unfold Lib.strCells Lib.byteCells
  simp [bstr]
theorem wstr_calls (B b : Nat) (l t : Txt) (w : World) (h : Bld B b l w) (hl : l.length + t.length ≤ 100000000000000) (hB : B ≤ w.heap.size) :
    Calls Tryz.prog 54 #[.pointer (some ⟨b, 0, none⟩), .string (bstr t)] w fun e w' => (∃ v, e = .returned v) ∧ Bld B b (l ++ t) w' ∧ Below B w w' := by
  refine (Any.Builder_WriteString_k lays166 extra167 B b (Lib.byteCells l) (bstr t) w h (by rw [bcells_len, bstr_size]; omega) hB).mono ?_
  rintro e w' ⟨rfl, h1, h2, _⟩
  refine ⟨⟨_, rfl⟩, .inr ?_, h2⟩
  rw [bcells_append, ← strCells_b t]
  exact h1
theorem absL_dropJ {l : List EvtR} {k : Nat} (h : k < l.length) : (absL l).drop k = l[k].abs :: (absL l).drop (k + 1) := by
  unfold absL
  rw [List.drop_eq_getElem_cons (by rw [List.length_map]; exact h), List.getElem_map]
theorem joinL_app (l : List Evt) (e : Evt) : joinL (l ++ [e]) = joinL l ++ lineT e ++ [10] := by simp [joinL]
theorem joinT_ok {l : List Evt} (h : joinE l = 0) : joinT l = joinL l := by unfold joinT; rw [if_pos h]
theorem joinT_no {l : List Evt} (h : joinE l ≠ 0) : joinT l = [] := by unfold joinT; rw [if_neg h]
set_option maxRecDepth 100000 in
set_option maxHeartbeats 3200000 in
theorem pjoin_calls (w : World) (hS : Std w) (A : Option Addr) (c : Nat) (l : List EvtR) (hr : EvsOK w A l c) (hs : ∀ e ∈ l, ShortE e.abs) (lm : l.length ≤ 100000) :
    Calls Tryz.prog 24 #[.slice A l.length c] w fun r w' => r = .returned (.tuple #[.string (bstr (joinT (absL l))), .int .i64 (joinE (absL l))]) ∧ Below w.heap.size w w' := by
  obtain ⟨jT, hjT⟩ : ∃ x, x = joinT (absL l) := ⟨_, rfl⟩
  obtain ⟨jE, hjE⟩ : ∃ x, x = joinE (absL l) := ⟨_, rfl⟩
  rw [← hjT, ← hjE]
  replace hjT := Lib.hid hjT
  have b0 := bld_new w
  have B1 : Below w.heap.size w (w.alloc (.cells #[.pointer none, .slice none 0 0] 113)) := (Below.refl _ _).alloc (Nat.le_refl _) _
  go_enter Tryz.func24, Tryz.ntmps24
  go_wp2_with fail
  generalize w.alloc (.cells #[.pointer none, .slice none 0 0] 113) = w1 at *
  go_loopw [11] (fun i wr => ∃ k : Nat, k ≤ l.length ∧ i = .int .i64 (k : Int) ∧ Hid (jE = joinE ((absL l).drop k)) ∧ Bld w.heap.size w.heap.size (joinL ((absL l).take k)) wr ∧ (joinL ((absL l).take k)).length ≤ 65537 * k ∧ Below w.heap.size w wr) (fun i _ => l.length - (intOf i).toNat)
  case atStart => exact ⟨0, by omega, rfl, Lib.hid (by simpa using hjE), b0, by simp [joinL], B1⟩
  case round =>
  replace hjE := Lib.hid hjE
  clear b0 B1
  obtain ⟨k, hk, rfl, hR, hbd, hL, B⟩ := hrel
  have hwr := B.size
  by_cases hlt : k < l.length
  case neg =>
    obtain rfl : k = l.length := by omega
    have dec : decide ((l.length : Int) < (l.length : Int)) = false := decide_eq_false (by omega)
    have e0 : jE = 0 := by
      rw [hR.out, List.drop_eq_nil_of_le (by rw [absL_len]; exact Nat.le_refl _)]
      rfl
    have e1 : jT = joinL ((absL l).take l.length) := by
      rw [hjT.out, joinT_ok (by rw [← hjE.out, e0]), List.take_of_length_le (by rw [absL_len]; exact Nat.le_refl _)]
    clear hR hjT hjE
    subst e0
    rw [← e1] at hbd hL
    clear e1
    go_wp2_with fail
    refine (bstring_calls w.heap.size w.heap.size _ wr hbd hwr).mono ?_
    rintro e w3 ⟨rfl, B3⟩
    go_wp2_with fail
    go_ret2
    exact ⟨rfl, B.trans B3⟩
  have dec : decide ((k : Int) < (l.length : Int)) = true := decide_eq_true (by omega)
  have dec' : decide (k < l.length) = true := decide_eq_true hlt
  obtain ⟨b, off, rfl, hbs, hc⟩ := evt_at (hr.rv.below B) hlt
  have ht := absL_take hlt
  have hd := absL_dropJ hlt
  have ox := (hr.ok _ (List.getElem_mem hlt)).below B
  have sx := hs _ (List.getElem_mem hlt)
  generalize l[k] = x at *
  have hR1 : jE = if textE x.abs = 0 then joinE ((absL l).drop (k + 1)) else textE x.abs := by rw [hR.out, hd, joinE]
  have hJ : joinL ((absL l).take (k + 1)) = joinL ((absL l).take k) ++ lineT x.abs ++ [10] := by rw [ht, joinL_app]
  clear ht hd hR
  replace hR1 := Lib.hid hR1
  replace hJ := Lib.hid hJ
  generalize joinL ((absL l).take k) = J at *
  go_upto_region 4 with fail
  with_reducible refine wp_region_lit ?_
  with_reducible refine wpList_cutAt 1 ?_
  simp only [List.take_succ_cons, List.take_zero, List.drop_succ_cons, List.drop_zero]
  go_wp2_with fail
  with_reducible refine CutQ.go_ ?_
  with_reducible refine wpList_load_mid rfl 45 (.tmp 13) rfl b (off + k * 57) (by kernel_rfl) x.cells _ hc Tryz.underlying45 (by kernel_rfl) (by kernel_rfl) ?_
  go_frame
  with_reducible refine wpList_cutAt 1 ?_
  simp only [List.take_succ_cons, List.take_zero, List.drop_succ_cons, List.drop_zero]
  repeat (first | go_values | go_skip | go_guarded | go_step | go_upon)
  with_reducible refine CutQ.go_ ?_
  with_reducible refine wpList_abs (fun w' => Blk w' wr.heap.size 45 zEvtR.cells.toArray ∧ Below wr.heap.size wr w') ?_ ?_
  · exact ⟨Blk.new wr 45 zEvtR.cells.toArray, below_new wr (.cells zEvtR.cells.toArray 45)⟩
  rintro wA0 ⟨bE0, dE0⟩
  have bE' : wA0.heap[wr.heap.size]? = some (Obj.cells zEvtR.cells.toArray 45) := bE0
  with_reducible refine wpList_store_row rfl 45 (.tmp 6) (.tmp 14) rfl wr.heap.size x.cells.toArray (by kernel_rfl) (by kernel_rfl) 45 zEvtR.cells.toArray bE' (by kernel_rfl) (by kernel_rfl) (by kernel_rfl) (wpList_nil ?_)
  have bE := bE0.setRow_ x.cells.toArray
  have dE := below_setRow dE0 (Nat.le_refl _) x.cells.toArray
  revert bE dE
  generalize wA0.setRow wr.heap.size x.cells.toArray = wA
  clear bE' bE0 dE0 wA0
  intro bE dE
  simp only [Act.put]
  have BA := B.trans (dE.mono B.size)
  have oxA := ox.below dE
  have hbA := bld_below hbd dE
  clear hc hbs ox dE B hbd
  go_upto_region 5 with fail
  have TC := tx_calls x wA (hS.below BA) oxA (line_fits sx oxA)
  have bE' : wA.heap[wr.heap.size]? = some (Obj.cells x.cells.toArray 45) := bE
  with_reducible refine wp_region_lit ?_
  with_reducible refine wpList_load_row rfl 45 (.tmp 6) rfl wr.heap.size (by kernel_rfl) 45 x.cells.toArray (0, 0) _ bE' Tryz.underlying45 (by kernel_rfl) (by kernel_rfl) ?_
  go_frame
  clear bE'
  go_upto_region 6 with (go_at_call 13; refine TC.mono ?_; rintro _ w2 ⟨hr0, d2⟩; unfold RetTx at hr0; subst hr0; clear TC)
  have B2 := BA.trans (d2.mono BA.size)
  have hb2 := bld_below hbA d2
  clear bE d2 hbA oxA BA
  by_cases hE : textE x.abs = 0
  · obtain ⟨rx, lx, tx⟩ := textE_ok hE
    have hR2 := hR1.out
    rw [if_pos hE] at hR2
    replace hR2 := Lib.hid hR2
    rw [hE, tx]
    have hJ2 := hJ.out
    replace hJ2 := Lib.hid hJ2
    have hlJ : (J ++ lineT x.abs ++ [10]).length ≤ 65537 * (k + 1) := by
      simp only [List.length_append, List.length_cons, List.length_nil]
      omega
    clear hR1 tx hE rx hJ
    generalize lineT x.abs = tl at *
    have hw2 := B2.size
    have WS := wstr_calls w.heap.size w.heap.size J tl w2 hb2 (by omega) hw2
    go_upto_region 9 with (go_at_call 54; refine WS.mono ?_; rintro _ w3 ⟨⟨v, rfl⟩, hb3, B3⟩; clear WS)
    replace B3 := B2.trans B3
    have hw3 := B3.size
    have WB := wbyte_calls w.heap.size w.heap.size (J ++ tl) 10 10 rfl w3 hb3 (by rw [List.length_append]; omega) hw3
    clear hb2 B2
    go_wp2_with (go_at_call 55; refine WB.mono ?_; rintro _ w4 ⟨rfl, hb4, B4⟩; clear WB)
    replace B4 := B3.trans B4
    go_roundw
    case rel => exact ⟨k + 1, by omega, by go_num, hR2, by rw [hJ2.out]; exact hb4, by rw [hJ2.out]; exact hlJ, B4⟩
    case measure => simp [intOf]; omega
  · have ne : (textE x.abs != 0) = true := bne_iff_ne.2 hE
    have hR2 := hR1.out
    rw [if_neg hE] at hR2
    have hT2 : jT = [] := by
      rw [hjT.out]
      exact joinT_no (by rw [← hjE.out, hR2]; exact hE)
    clear hR1 hJ hjT hjE
    replace hR2 := Lib.hid hR2
    replace hT2 := Lib.hid hT2
    generalize textT x.abs = tt at *
    go_wp2_with fail
    go_ret2
    exact ⟨by rw [hR2.out, hT2.out]; rfl, B2⟩
end Go.Proofs.YtiokbebodblhaaaGreatDoor
