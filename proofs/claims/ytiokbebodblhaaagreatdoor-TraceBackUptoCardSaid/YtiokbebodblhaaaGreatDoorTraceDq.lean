/-
  Walk of the document: a request's words. Printed by docreq.py.
-/
import Derived.Test.YtiokbebodblhaaaGreatDoorTDx
namespace Go.Proofs.YtiokbebodblhaaaGreatDoor
open Go.RowKit TraceP

theorem req_text (hd : Bool) (ob : Txt) (sl : List Spn) (ml nl : List Tag) (aM aN : Bool) (si un : Int) (rg : Tag) : yesT hd ++ flT ([wordT ob, numT (sl.length : Int)] ++ sl.flatMap spnW) ++ [32] ++ spT (tagsW ml) ++ [32] ++ spT (tagsW nl) ++ [32] ++ yesT aM ++ [32] ++ yesT aN ++ [32] ++ numT si ++ [32] ++ numT un ++ [32] ++ tagT rg = spT (reqW ⟨hd, ob, sl, ⟨ml, nl, aM, aN, si, un, rg⟩⟩) := by
  have e : reqW ⟨hd, ob, sl, ⟨ml, nl, aM, aN, si, un, rg⟩⟩ = yesT hd :: wordT ob :: (spnsW sl ++ (tagsW ml ++ (tagsW nl ++ (yesT aM :: yesT aN :: numT si :: numT un :: [tagT rg])))) := rfl
  have e1 := tags_fl ml
  have e2 := tags_fl nl
  rw [e, spT_fl]
  simp only [flT_cons, flT_append, ← e1, ← e2, spnsW]
  simp [flT]
set_option maxRecDepth 100000 in
set_option maxHeartbeats 1600000 in
theorem dreq_calls (y : ReqR) (w : World) (hm : ReqOK w y) (hp : ReqP y.abs) :
    Calls Tryz.prog 38 #[.agg y.cells.toArray] w fun e w' => e = .returned (.string (bstr (spT (reqW y.abs)))) ∧ Below w.heap.size w w' := by
  obtain ⟨hd, ob, ⟨sA, sc, sl⟩, ⟨mA, mc, ml⟩, ⟨nA, nc, nl⟩, aM, aN, si, un, rg⟩ := y
  have hob : ShT ob := hp.object
  have hS : LstP 100001 SpnI sl := hp.specs
  have hM : LstP 100001 (fun t => ShT t.text) ml := hp.mtch
  have hN : LstP 100001 (fun t => ShT t.text) nl := hp.non
  have hsi : I64 si := hp.since
  have hun : I64 un := hp.unless_
  have hrg : ShT rg.text := hp.range
  have hsr : RV w sA (fl spC sl) := hm.specs.rv
  have hmr : RV w mA (fl tgC ml) := hm.mtch.rv
  have hnr : RV w nA (fl tgC nl) := hm.non.rv
  have hsl : I64 (sl.length : Int) := by have := hS.1; exact ⟨by omega, by omega⟩
  have l0 := yesT_len hd
  have l1 := wordT_len hob
  have l2 := numT_len hsl
  have hPre : Lw 2 [wordT ob, numT (sl.length : Int)] := Lw.cons l1 (Lw.cons l2 Lw.nil)
  have hz : yesT hd ++ [32] ++ wordT ob ++ [32] ++ numT (sl.length : Int) = yesT hd ++ flT ([wordT ob, numT (sl.length : Int)] ++ (sl.take 0).flatMap spnW) := by simp [flT]
  show Calls _ _ _ _ fun e w' => e = .returned (.string (bstr (spT (reqW ⟨hd, ob, sl, ⟨ml, nl, aM, aN, si, un, rg⟩⟩)))) ∧ Below w.heap.size w w'
  have he := Lib.hid (req_text hd ob sl ml nl aM aN si un rg)
  clear hm hp
  have bM := Blk.new w 29 (ReqR.mk hd ob ⟨sA, sc, sl⟩ ⟨mA, mc, ml⟩ ⟨nA, nc, nl⟩ aM aN si un rg).cells.toArray
  have B := below_new w (.cells (ReqR.mk hd ob ⟨sA, sc, sl⟩ ⟨mA, mc, ml⟩ ⟨nA, nc, nl⟩ aM aN si un rg).cells.toArray 29)
  have c0 := growc (bM.at_ (i := 0) (v := .bool hd) rfl)
  have c1 := growc (bM.at_ (i := 1) (v := .string (bstr ob)) rfl)
  have c2 := growc (bM.at_ (i := 2) (v := .slice sA sl.length sc) rfl)
  go_enter Tryz.func38, Tryz.ntmps38
  go_upto_region 1 with (fail)
  generalize w.alloc (.cells (ReqR.mk hd ob ⟨sA, sc, sl⟩ ⟨mA, mc, ml⟩ ⟨nA, nc, nl⟩ aM aN si un rg).cells.toArray 29) = w1 at *
  refine wp_region_grow (by kernel_rfl) (by kernel_rfl) ?_
  go_big_quiet_step (fail)
  go_big_quiet_step (fail)
  go_big_quiet_step (first | (go_at_call 36; exact yesC_grow hd _ _))
  with_reducible refine wqA (.tmp 9) spO rfl (yesT hd) ([32]) ?_
  go_frame
  go_big_quiet_step (fail)
  go_big_quiet_step (fail)
  go_big_quiet_step (first | (go_at_call 34; exact wordC_grow hob _ _))
  with_reducible refine wqA (.tmp 10) (.tmp 13) rfl (yesT hd ++ [32]) (wordT ob) ?_
  go_frame
  with_reducible refine wqA (.tmp 14) spO rfl (yesT hd ++ [32] ++ wordT ob) ([32]) ?_
  go_frame
  go_big_quiet_step (fail)
  go_big_quiet_step (fail)
  go_big_quiet_step (fail)
  go_big_quiet_step (first | (go_at_call 33; exact numC_grow hsl _ _))
  with_reducible refine wqA (.tmp 15) (.tmp 19) rfl (yesT hd ++ [32] ++ wordT ob ++ [32]) (numT (sl.length : Int)) ?_
  go_frame
  go_big_quiet_step (fail)
  refine wpQuiet_nil ?_
  rintro w' ⟨r, rfl⟩
  have BB := B.trans ((grow_below w1 r).mono B.size)
  have bM2 := bM.below (grow_below w1 r) bM.lt
  clear c0 c1 c2 bM B
  obtain ⟨bM, B⟩ : _ ∧ _ := ⟨bM2, BB⟩
  clear bM2 BB
  generalize grow w1 r = w2 at *
  have c0 := bM.at_ (i := 0) (v := .bool hd) rfl
  have c1 := bM.at_ (i := 1) (v := .string (bstr ob)) rfl
  have c2 := bM.at_ (i := 2) (v := .slice sA sl.length sc) rfl
  rw [hz]
  clear hz
  go_wp2_with fail
  go_loopw [3, 24] (fun s i wr => ∃ k : Nat, k ≤ sl.length ∧ i = .int .i64 (k : Int) ∧ s = .string (bstr (yesT hd ++ flT ([wordT ob, numT (sl.length : Int)] ++ (sl.take k).flatMap spnW))) ∧ Below w.heap.size w wr ∧ Blk wr w.heap.size 29 (ReqR.mk hd ob ⟨sA, sc, sl⟩ ⟨mA, mc, ml⟩ ⟨nA, nc, nl⟩ aM aN si un rg).cells.toArray) (fun _ i _ => sl.length - (intOf i).toNat)
  case atStart => exact ⟨0, by omega, rfl, by simp [flT], B, bM⟩
  case round =>
    clear bM B
    obtain ⟨k, hk, rfl, rfl, B, bM⟩ := hrel
    by_cases hlt : k < sl.length
    · have dec : decide ((k : Int) < (sl.length : Int)) = true := decide_eq_true (by omega)
      have dec' : decide (k < sl.length) = true := decide_eq_true hlt
      have wk : wrap64 ((k : Int) + 1) = (k : Int) + 1 := by have := hS.1; unfold wrap64; omega
      have HL : ((yesT hd ++ flT ([wordT ob, numT (sl.length : Int)] ++ (sl.take k).flatMap spnW))).length ≤ 1000000000000 := by
        rw [← spT_fl]
        exact sml_lw (n := 999000) ((Lw.cons l0 (Lw.append hPre (Lw.flat (P := SpnI) (j := 2) (fun a h => spn_lw h) (sl.take k) (fun a ha => hS.2 a (List.mem_of_mem_take ha))))).mono (by rw [List.length_take]; have := hS.1; omega)) (by decide)
      have hx := hS.2 _ (List.getElem_mem hlt)
      obtain ⟨b, off, rfl, hbs, hc, hc1⟩ := fl_elem2 spC_len (hsr.below B) hlt
      have HT : Hid ((yesT hd ++ flT ([wordT ob, numT (sl.length : Int)] ++ (sl.take (k + 1)).flatMap spnW)) = (yesT hd ++ flT ([wordT ob, numT (sl.length : Int)] ++ (sl.take k).flatMap spnW)) ++ flT (spnW sl[k])) := Lib.hid (by rw [flat_take_succ _ hlt]; simp only [flT_append, List.append_assoc])
      generalize (yesT hd ++ flT ([wordT ob, numT (sl.length : Int)] ++ (sl.take k).flatMap spnW)) = X at *
      generalize sl[k] = a at *
      have x0 := hc (.int .i64 a.frm) rfl
      have x1 := hc1 (.int .i64 a.to) rfl
      clear hc hc1
      have n1 := numT_len hx.1
      have n2 := numT_len hx.2
      go_upto_region 5 with fail
      have bE := Blk.new wr 74 #[.int .i64 a.frm, .int .i64 a.to]
      have bM3 := bM.alloc (.cells #[.int .i64 a.frm, .int .i64 a.to] 74)
      have B3 := B.trans ((below_new wr (.cells #[.int .i64 a.frm, .int .i64 a.to] 74)).mono B.size)
      clear bM B
      generalize wr.alloc (.cells #[.int .i64 a.frm, .int .i64 a.to] 74) = w3 at *
      have e0 := growc (bE.at_ (i := 0) (v := .int .i64 a.frm) rfl)
      have e1 := growc (bE.at_ (i := 1) (v := .int .i64 a.to) rfl)
      refine wp_region_grow (by kernel_rfl) (by kernel_rfl) ?_
      go_big_quiet_step (fail)
      with_reducible refine wqA (.tmp 28) spO rfl (X) ([32]) ?_
      go_frame
      go_big_quiet_step (fail)
      go_big_quiet_step (fail)
      go_big_quiet_step (first | (go_at_call 33; exact numC_grow hx.1 _ _))
      with_reducible refine wqA (.tmp 29) (.tmp 32) rfl (X ++ [32]) (numT a.frm) ?_
      go_frame
      with_reducible refine wqA (.tmp 33) spO rfl (X ++ [32] ++ numT a.frm) ([32]) ?_
      go_frame
      go_big_quiet_step (fail)
      go_big_quiet_step (fail)
      go_big_quiet_step (first | (go_at_call 33; exact numC_grow hx.2 _ _))
      with_reducible refine wqA (.tmp 34) (.tmp 37) rfl (X ++ [32] ++ numT a.frm ++ [32]) (numT a.to) ?_
      go_frame
      go_big_quiet_step (fail)
      refine wpQuiet_nil ?_
      rintro w4 ⟨r, rfl⟩
      have B4 := B3.trans ((grow_below w3 r).mono B3.size)
      have bM4 := bM3.below (grow_below w3 r) bM3.lt
      clear bE bM3 B3 x0 e0 x1 e1
      go_wp2_with fail
      go_roundw
      case rel => exact ⟨k + 1, by omega, by go_num, by rw [HT.out]; exact congrArg (fun t => Value.string (bstr t)) (by simp [flT, spnW]), B4, bM4⟩
      case measure => exact meas_next hlt (by go_num)
    · obtain rfl : k = sl.length := by omega
      have dec : decide ((sl.length : Int) < (sl.length : Int)) = false := decide_eq_false (by omega)
      rw [List.take_length]
      have HL : (yesT hd ++ flT ([wordT ob, numT (sl.length : Int)] ++ sl.flatMap spnW)).length ≤ 1000000000000 := by
        rw [← spT_fl]
        exact sml_lw (n := 999000) ((Lw.cons l0 (Lw.append hPre (Lw.flat (P := SpnI) (j := 2) (fun a h => spn_lw h) sl hS.2))).mono (by have := hS.1; omega)) (by decide)
      generalize yesT hd ++ flT ([wordT ob, numT (sl.length : Int)] ++ sl.flatMap spnW) = X at *
      have c3 := bM.at_ (i := 3) (v := .slice mA ml.length mc) rfl
      have c4 := bM.at_ (i := 4) (v := .slice nA nl.length nc) rfl
      have c5 := bM.at_ (i := 5) (v := .bool aM) rfl
      have c6 := bM.at_ (i := 6) (v := .bool aN) rfl
      have c7 := bM.at_ (i := 7) (v := .int .i64 si) rfl
      have c8 := bM.at_ (i := 8) (v := .int .i64 un) rfl
      have c9 := bM.at_ (i := 9) (v := .string (bstr rg.text)) rfl
      have c10 := bM.at_ (i := 10) (v := .bool rg.weak) rfl
      go_upto_region 8 with fail
      have bE := Blk.new wr 27 #[.slice mA ml.length mc, .slice nA nl.length nc, .bool aM, .bool aN, .int .i64 si, .int .i64 un, .string (bstr rg.text), .bool rg.weak]
      have B3 := B.trans ((below_new wr (.cells #[.slice mA ml.length mc, .slice nA nl.length nc, .bool aM, .bool aN, .int .i64 si, .int .i64 un, .string (bstr rg.text), .bool rg.weak] 27)).mono B.size)
      clear bM c3 c4 c5 c6 c7 c8 c9 c10
      generalize wr.alloc (.cells #[.slice mA ml.length mc, .slice nA nl.length nc, .bool aM, .bool aN, .int .i64 si, .int .i64 un, .string (bstr rg.text), .bool rg.weak] 27) = w3 at *
      have hm3 := hmr.below B3
      have hn3 := hnr.below B3
      have e0 := growc (bE.at_ (i := 0) (v := .slice mA ml.length mc) rfl)
      have e1 := growc (bE.at_ (i := 1) (v := .slice nA nl.length nc) rfl)
      have e2 := growc (bE.at_ (i := 2) (v := .bool aM) rfl)
      have e3 := growc (bE.at_ (i := 3) (v := .bool aN) rfl)
      have e4 := growc (bE.at_ (i := 4) (v := .int .i64 si) rfl)
      have e5 := growc (bE.at_ (i := 5) (v := .int .i64 un) rfl)
      have e6 := growc (bE.at_ (i := 6) (v := .string (bstr rg.text)) rfl)
      have e7 := growc (bE.at_ (i := 7) (v := .bool rg.weak) rfl)
      have k1 : Sml (spT (tagsW ml)) := sml_lw (tags_lw hM) (by decide)
      have k2 : Sml (spT (tagsW nl)) := sml_lw (tags_lw hN) (by decide)
      unfold Sml at k1 k2
      have k3 := yesT_len aM
      have k4 := yesT_len aN
      have k5 := numT_len hsi
      have k6 := numT_len hun
      have k7 := tagT_len hrg
      refine wp_region_grow (by kernel_rfl) (by kernel_rfl) ?_
      go_big_quiet_step (fail)
      with_reducible refine wqA (.tmp 42) spO rfl (X) ([32]) ?_
      go_frame
      go_big_quiet_step (fail)
      go_big_quiet_step (fail)
      go_big_quiet_step (first | (go_at_call 76; exact tagsC_grow w3 _ hm3 hM))
      with_reducible refine wqA (.tmp 43) (.tmp 46) rfl (X ++ [32]) (spT (tagsW ml)) ?_
      go_frame
      with_reducible refine wqA (.tmp 47) spO rfl (X ++ [32] ++ spT (tagsW ml)) ([32]) ?_
      go_frame
      go_big_quiet_step (fail)
      go_big_quiet_step (fail)
      go_big_quiet_step (first | (go_at_call 76; exact tagsC_grow w3 _ hn3 hN))
      with_reducible refine wqA (.tmp 48) (.tmp 51) rfl (X ++ [32] ++ spT (tagsW ml) ++ [32]) (spT (tagsW nl)) ?_
      go_frame
      with_reducible refine wqA (.tmp 52) spO rfl (X ++ [32] ++ spT (tagsW ml) ++ [32] ++ spT (tagsW nl)) ([32]) ?_
      go_frame
      go_big_quiet_step (fail)
      go_big_quiet_step (fail)
      go_big_quiet_step (first | (go_at_call 36; exact yesC_grow aM _ _))
      with_reducible refine wqA (.tmp 53) (.tmp 56) rfl (X ++ [32] ++ spT (tagsW ml) ++ [32] ++ spT (tagsW nl) ++ [32]) (yesT aM) ?_
      go_frame
      with_reducible refine wqA (.tmp 57) spO rfl (X ++ [32] ++ spT (tagsW ml) ++ [32] ++ spT (tagsW nl) ++ [32] ++ yesT aM) ([32]) ?_
      go_frame
      go_big_quiet_step (fail)
      go_big_quiet_step (fail)
      go_big_quiet_step (first | (go_at_call 36; exact yesC_grow aN _ _))
      with_reducible refine wqA (.tmp 58) (.tmp 61) rfl (X ++ [32] ++ spT (tagsW ml) ++ [32] ++ spT (tagsW nl) ++ [32] ++ yesT aM ++ [32]) (yesT aN) ?_
      go_frame
      with_reducible refine wqA (.tmp 62) spO rfl (X ++ [32] ++ spT (tagsW ml) ++ [32] ++ spT (tagsW nl) ++ [32] ++ yesT aM ++ [32] ++ yesT aN) ([32]) ?_
      go_frame
      go_big_quiet_step (fail)
      go_big_quiet_step (fail)
      go_big_quiet_step (first | (go_at_call 33; exact numC_grow hsi _ _))
      with_reducible refine wqA (.tmp 63) (.tmp 66) rfl (X ++ [32] ++ spT (tagsW ml) ++ [32] ++ spT (tagsW nl) ++ [32] ++ yesT aM ++ [32] ++ yesT aN ++ [32]) (numT si) ?_
      go_frame
      with_reducible refine wqA (.tmp 67) spO rfl (X ++ [32] ++ spT (tagsW ml) ++ [32] ++ spT (tagsW nl) ++ [32] ++ yesT aM ++ [32] ++ yesT aN ++ [32] ++ numT si) ([32]) ?_
      go_frame
      go_big_quiet_step (fail)
      go_big_quiet_step (fail)
      go_big_quiet_step (first | (go_at_call 33; exact numC_grow hun _ _))
      with_reducible refine wqA (.tmp 68) (.tmp 71) rfl (X ++ [32] ++ spT (tagsW ml) ++ [32] ++ spT (tagsW nl) ++ [32] ++ yesT aM ++ [32] ++ yesT aN ++ [32] ++ numT si ++ [32]) (numT un) ?_
      go_frame
      with_reducible refine wqA (.tmp 72) spO rfl (X ++ [32] ++ spT (tagsW ml) ++ [32] ++ spT (tagsW nl) ++ [32] ++ yesT aM ++ [32] ++ yesT aN ++ [32] ++ numT si ++ [32] ++ numT un) ([32]) ?_
      go_frame
      go_big_quiet_step (fail)
      go_big_quiet_step (fail)
      go_big_quiet_step (first | (go_at_call 75; exact tagC_grow hrg _ _))
      with_reducible refine wqA (.tmp 73) (.tmp 76) rfl (X ++ [32] ++ spT (tagsW ml) ++ [32] ++ spT (tagsW nl) ++ [32] ++ yesT aM ++ [32] ++ yesT aN ++ [32] ++ numT si ++ [32] ++ numT un ++ [32]) (tagT rg) ?_
      go_frame
      go_big_quiet_step (fail)
      refine wpQuiet_nil ?_
      rintro w4 ⟨r, rfl⟩
      have B4 := B3.trans ((grow_below w3 r).mono B3.size)
      clear bE e0 e1 e2 e3 e4 e5 e6 e7
      go_wp2
      go_ret
      exact ⟨by rw [← he.out]; rfl, B4⟩
theorem reqC_grow (w1 r0 : World) {y : ReqR} (hm : ReqOK w1 y) (hp : ReqP y.abs) : Calls Tryz.prog 38 #[.agg y.cells.toArray] (grow w1 r0) fun e w' => e = .returned (.string (bstr (spT (reqW y.abs)))) ∧ ∃ r', w' = grow w1 r' :=
  calls_grow (dreq_calls y (grow w1 r0) (hm.below (grow_below w1 r0)) hp)
end Go.Proofs.YtiokbebodblhaaaGreatDoor
