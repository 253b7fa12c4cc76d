/-
  Walk of the document's Parse: the event of a line. Printed by docps.py.
-/
import Derived.Test.YtiokbebodblhaaaGreatDoorTraceGs
import Derived.Test.YtiokbebodblhaaaGreatDoorTracePs
namespace Go.Proofs.YtiokbebodblhaaaGreatDoor
open Go.RowKit TraceP
attribute [local go_sem] Row.val

theorem names_at (k : Nat) (hk : k < 16) : namesV.toArray[k]? = some (.string (bstr (kindT (k + 1)))) := by
  have K : k = 0 ∨ k = 1 ∨ k = 2 ∨ k = 3 ∨ k = 4 ∨ k = 5 ∨ k = 6 ∨ k = 7 ∨ k = 8 ∨ k = 9 ∨ k = 10 ∨ k = 11 ∨ k = 12 ∨ k = 13 ∨ k = 14 ∨ k = 15 := by omega
  rcases K with rfl | rfl | rfl | rfl | rfl | rfl | rfl | rfl | rfl | rfl | rfl | rfl | rfl | rfl | rfl | rfl <;> rfl
set_option maxRecDepth 100000 in
set_option maxHeartbeats 6400000 in
theorem dparse_calls (w : World) (s : Txt) :
    Calls Tryz.prog 16 #[.string (bstr s)] w fun r w' => RetPar w s r w' := by
  have hl : (bstr s).size = s.length := bstr_size _
  have hPR : parE s = parR s := par_same s
  have bR0 := Blk.new w 45 zEvtR.cells.toArray
  have B0 := below_new w (.cells zEvtR.cells.toArray 45)
  go_enter Tryz.func16, Tryz.ntmps16
  unfold Tryz.f16
  go_step
  go_step
  with_reducible refine wp_region_lit ?_
  with_reducible refine wpList_cutAt 2 ?_
  simp only [List.take_succ_cons, List.take_zero, List.drop_succ_cons, List.drop_zero]
  repeat (first | go_values | go_skip | go_guarded | go_step | go_upon)
  with_reducible refine CutQ.go_ (wpList_nil ?_)
  go_upto_region 1 with (fail)
  with_reducible refine code_abs (fun w' => Blk w' w.heap.size 45 zEvtR.cells.toArray ∧ Below w.heap.size w w') ?_ ?_
  · exact ⟨bR0, B0⟩
  clear bR0 B0
  rintro wa ⟨bR, B⟩
  by_cases hm : 65536 < s.length
  · have hP : parE s = none := by unfold parE; rw [if_pos hm]
    have d0 : decide ((65536 : Int) < (s.length : Int)) = true := decide_eq_true (by omega)
    go_upto_region 2 with (fail)
    have bR' : wa.heap[w.heap.size]? = some (Obj.cells zEvtR.cells.toArray 45) := bR
    with_reducible refine wp_region_lit ?_
    with_reducible refine wpList_build_eq rfl 45 _ rfl zEvtR.cells.toArray (by kernel_rfl) ?_
    go_frame
    with_reducible refine wpList_store_row rfl 45 (.tmp 2) (.tmp 15) rfl w.heap.size zEvtR.cells.toArray (by kernel_rfl) (by kernel_rfl) 45 zEvtR.cells.toArray bR' (by kernel_rfl) (by kernel_rfl) (by kernel_rfl) ?_
    have bT : (wa.setRow w.heap.size zEvtR.cells.toArray).heap[w.heap.size]? = some (Obj.cells zEvtR.cells.toArray 45) := Blk.setRow_ (w := wa) (g := w.heap.size) (t := 45) (cs := zEvtR.cells.toArray) bR _
    have BT := below_setRow B (Nat.le_refl w.heap.size) zEvtR.cells.toArray
    simp only [Act.put]
    repeat go_step
    (try simp only [Exit.inBlock, Exit.then])
    refine bodyPost_ret (results_row_tmp rfl _ _ w.heap.size 45 zEvtR.cells.toArray (0, 0) _ (by kernel_rfl) bT Tryz.underlying45 (by kernel_rfl) (by kernel_rfl) (.int .i64 2) (by kernel_rfl)) rfl ?_
    exact RetPar.no hP BT
  · have d0 : decide ((65536 : Int) < (s.length : Int)) = false := decide_eq_false (by omega)
    have C := parted_calls s wa (by omega)
    have hwa : w.heap.size < wa.heap.size := bR.lt
    have hsw := words_sh (s := s) (by omega)
    have hmw := words_many s
    go_upto_region 4 with (go_at_call 44; refine C.mono ?_; rintro _ wb ⟨⟨rA, rc, rl⟩, rfl, hrl, hr, db⟩; replace hrl := Lib.hid hrl; clear C)
    with_reducible refine code_abs (fun w' => ∃ g, g = wb.heap.size ∧ DdOK (wordsS s).length w w' g (fun k => k = g) (wordsS s, false) ∧ Blk w' w.heap.size 45 zEvtR.cells.toArray) ?_ ?_
    · have e : rl = wordsS s := hrl.out
      have hn : rl.length = (wordsS s).length := by rw [e]
      have Bb := B.trans (db.mono (Nat.le_of_lt hwa))
      have k1 : rl.length ≤ rc := hr.le
      have k2 : rc ≤ 9223372036854775807 := hr.cap
      have bn := below_new wb (.cells #[.slice rA rl.length rc, .int .i64 0, .bool false] 97)
      exact ⟨_, rfl, ⟨⟨(rA, wordsS s, 0), rc, by rw [← hn]; exact Blk.new wb _ _, ⟨rfl, Nat.zero_le _, rfl, by rw [← hn]; exact k1⟩, k2, by
        have hv : RVF wb (fun k => k < wa.heap.size) rA (fl txC rl) := hr.rv
        rw [e] at hv
        exact (hv.mono (G := fun k => k = wb.heap.size) (fun k hk h => by omega)).below bn⟩, hsw.1, Nat.le_trans (Nat.le_of_lt hwa) db.size, rfl, Bb.trans (bn.mono (Nat.le_trans (Nat.le_of_lt hwa) db.size)), by omega⟩, (bR.below db hwa).below bn (Nat.lt_of_lt_of_le hwa db.size)⟩
    rintro wc ⟨g, eg, H, bRc⟩
    have hwg : w.heap.size < g := by rw [eg]; exact Nat.lt_of_lt_of_le hwa db.size
    rw [← eg]
    clear eg hr db bR B hrl hwa hsw hmw
    have fewL := H.few
    have P0 : Hid (parE s = if (rEvt (wordsS s).length (wordsS s, false)).2.2 = false ∧ textE (rEvt (wordsS s).length (wordsS s, false)).1 = 0 ∧ textT (rEvt (wordsS s).length (wordsS s, false)).1 = s then some (rEvt (wordsS s).length (wordsS s, false)).1 else none) := Lib.hid (by rw [hPR]; unfold parR; rw [if_neg hm])
    clear hPR
    generalize hwd : wordsS s = ws at *
    clear hwd
    obtain ⟨L, hL⟩ : ∃ L, L = ws.length := ⟨_, rfl⟩
    rw [← hL] at H P0 fewL
    clear hL
    obtain ⟨ss, hss⟩ : ∃ x : RdS, x = (ws, false) := ⟨_, rfl⟩
    rw [← hss] at H P0
    clear hss
    obtain ⟨EE, hEE⟩ : ∃ EE, EE = rEvt L ss := ⟨_, rfl⟩
    rw [← hEE] at P0
    replace hEE := Lib.hid hEE
    obtain ⟨a0, s1, q0⟩ : ∃ a s', rNum ss = (a, s') := ⟨_, _, rfl⟩
    have hI0 := rNum_I ss
    rw [q0] at hI0
    have C := dnumr_calls L w wc g _ ss H
    rw [q0] at C
    replace q0 := Lib.hid q0
    with_reducible refine wp_region_lit ?_
    with_reducible refine wpList_cutAt 2 ?_
    simp only [List.take_succ_cons, List.take_zero, List.drop_succ_cons, List.drop_zero]
    go_wp2_with (go_at_call 45; refine C.mono ?_; rintro _ w1 ⟨rfl, R1⟩; have H1 := R1.ok; have bR1 := bRc.rdD R1 (by omega); clear R1 H bRc C)
    with_reducible refine CutQ.go_ ?_
    with_reducible refine wpList_build_eq rfl 45 _ rfl (ev 0 a0 0 0).cells.toArray (by kernel_rfl) ?_
    go_frame
    with_reducible refine wpList_cutAt 1 ?_
    simp only [List.take_succ_cons, List.take_zero, List.drop_succ_cons, List.drop_zero]
    repeat (first | go_values | go_skip | go_guarded | go_step | go_upon)
    with_reducible refine CutQ.go_ ?_
    have hgb : g < w1.heap.size := H1.lt
    have hwb : w.heap.size < w1.heap.size := bR1.lt
    have bR2 := bR1.alloc (.cells zEvtR.cells.toArray 45)
    have hw1 : (w1.alloc (.cells zEvtR.cells.toArray 45)).heap.size = w1.heap.size + 1 := by simp
    have h0 := DHolds.start H1 45 zEvtR.cells.toArray
    with_reducible refine wpList_abs (fun w' => DHolds L w (w1.alloc (.cells zEvtR.cells.toArray 45)) g w1.heap.size (fun k => k = g) 45 s1 zEvtR.cells.toArray w') ?_ ?_
    · exact h0
    clear h0 bR1 H1
    rintro v1 h0
    have bX' : v1.heap[w1.heap.size]? = some (Obj.cells zEvtR.cells.toArray 45) := h0.blk
    with_reducible refine wpList_store_row rfl 45 (.tmp 5) (.tmp 22) rfl w1.heap.size (ev 0 a0 0 0).cells.toArray (by kernel_rfl) (by kernel_rfl) 45 zEvtR.cells.toArray bX' (by kernel_rfl) (by kernel_rfl) (by kernel_rfl) (wpList_nil ?_)
    have h1 := h0.ownRow (ev 0 a0 0 0).cells.toArray
    revert h1
    generalize v1.setRow w1.heap.size (ev 0 a0 0 0).cells.toArray = v1'
    clear h0 bX' v1
    intro h0
    simp only [Act.put]
    obtain ⟨v1, rfl⟩ : ∃ x, x = v1' := ⟨_, rfl⟩
    obtain ⟨a1, s2, q1⟩ : ∃ a s', pWord s1 = (a, s') := ⟨_, _, rfl⟩
    have C := dw_calls L w v1 g _ s1 h0.ok
    rw [q1] at C
    replace q1 := Lib.hid q1
    go_upto_region 7 with (go_at_call 46; refine C.mono ?_; rintro _ w2 ⟨rfl, RB⟩; have h1 := h0.call RB; clear h0 RB C)
    have bN0 := Blk.new w2 9 namesV.toArray
    have hsz2 := h1.size
    have e0 : kupto a1 1 = 0 := by unfold kupto; split <;> rfl
    with_reducible refine code_abs (fun w' => DHolds L w (w1.alloc (.cells zEvtR.cells.toArray 45)) g w1.heap.size (fun k => k = g) 45 s2 (ev (kupto a1 1 : Nat) a0 0 0).cells.toArray w' ∧ Blk w' w2.heap.size 9 namesV.toArray) ?_ ?_
    · rw [e0]; exact ⟨h1.below (below_new w2 _), bN0⟩
    clear h1 bN0 e0
    rintro v2 ⟨h0, bN⟩
    go_wp2_with fail
    go_loopw [28] (fun i wr => ∃ k : Nat, k ≤ 16 ∧ i = .int .i64 (k : Int) ∧ DHolds L w (w1.alloc (.cells zEvtR.cells.toArray 45)) g w1.heap.size (fun k => k = g) 45 s2 (ev (kupto a1 (k + 1) : Nat) a0 0 0).cells.toArray wr ∧ Blk wr w2.heap.size 9 namesV.toArray) (fun i _ => 16 - (intOf i).toNat)
    case atStart => exact ⟨0, by omega, rfl, h0, bN⟩
    case round =>
      clear h0 bN
      obtain ⟨k, hk, rfl, h0, bN⟩ := hrel
      by_cases hlt : k < 16
      · have dec : decide ((k : Int) < 16) = true := decide_eq_true (by omega)
        have dec' : decide (k < 16) = true := decide_eq_true hlt
        have x0 := bN.at_ (names_at k hlt)
        have hq : ((bstr (kindT (k + 1))).toList == (bstr a1).toList) = decide (kindT (k + 1) = a1) := by rw [bstr_list, bstr_list]; exact Bool.eq_iff_iff.2 (by simp)
        by_cases hw : kindT (k + 1) = a1
        · have ek : kupto a1 (k + 1 + 1) = k + 1 := by show (if 1 ≤ k + 1 ∧ kindT (k + 1) = a1 then k + 1 else _) = _; rw [if_pos ⟨by omega, hw⟩]
          rw [decide_eq_true hw] at hq
          have k0 := h0.at_ (i := 0) (v := .int .i64 (kupto a1 (k + 1) : Nat)) rfl
          have f0 := h0.blk.frozen 0
          replace hw := Lib.hid hw
          go_wp2_with fail
          go_roundw
          case rel => exact ⟨k + 1, by omega, by go_num, by rw [ek]; exact (h0.set 0 (.int .i64 ((k + 1 : Nat) : Int))).to (by kernel_rfl), bN.far (by show w2.heap.size ≠ w1.heap.size; omega) _⟩
          case measure => simp [intOf]; omega
        · have ek : kupto a1 (k + 1 + 1) = kupto a1 (k + 1) := by show (if 1 ≤ k + 1 ∧ kindT (k + 1) = a1 then k + 1 else _) = _; rw [if_neg (fun h => hw h.2)]
          rw [decide_eq_false hw] at hq
          replace hw := Lib.hid hw
          go_wp2_with fail
          go_roundw
          case rel => exact ⟨k + 1, by omega, by go_num, by rw [ek]; exact h0, bN⟩
          case measure => simp [intOf]; omega
      · obtain rfl : k = 16 := by omega
        have dec : decide ((16 : Int) < 16) = false := rfl
        rw [kupto_of] at h0
        obtain ⟨kk, hkk⟩ : ∃ x, kindOf a1 = x := ⟨_, rfl⟩
        have hk16 := kindOf_le a1
        rw [hkk] at h0 hk16
        replace hkk := Lib.hid hkk
        obtain ⟨v2, rfl⟩ : ∃ x, x = wr := ⟨_, rfl⟩
        clear bN
        go_upto_region 13 with (fail)
        have x0 := h0.at_ (i := 0) (v := .int .i64 (kk : Int)) rfl
        have E : (decide (6 ≤ (kk : Int)) = false ∧ decide (6 ≤ kk) = false ∧ kk < 6) ∨ (decide (6 ≤ (kk : Int)) = true ∧ decide (6 ≤ kk) = true ∧ decide ((kk : Int) ≤ 15) = true ∧ decide (kk ≤ 15) = true ∧ 6 ≤ kk ∧ kk ≠ 16) ∨ (decide (6 ≤ (kk : Int)) = true ∧ decide (6 ≤ kk) = true ∧ decide ((kk : Int) ≤ 15) = false ∧ decide (kk ≤ 15) = false ∧ kk = 16) := by
          rcases Nat.lt_or_ge kk 6 with h | h
          · exact .inl ⟨decide_eq_false (by omega), decide_eq_false (by omega), h⟩
          · rcases Nat.lt_or_ge kk 16 with h2 | h2
            · exact .inr (.inl ⟨decide_eq_true (by omega), decide_eq_true h, decide_eq_true (by omega), decide_eq_true (by omega), h, by omega⟩)
            · exact .inr (.inr ⟨decide_eq_true (by omega), decide_eq_true h, decide_eq_false (by omega), decide_eq_false (by omega), by omega⟩)
        rcases E with ⟨d1, d1', hr⟩ | ⟨d1, d1', d2, d2', hr, hr2⟩ | ⟨d1, d1', d2, d2', hr⟩
        · -- below 6
          go_upto_region 17 with (fail)
          clear x0
          obtain ⟨A0, c0, n0, bk⟩ := h0.ok.bad_
          have c2 := bk.at_ (i := 2) (v := .bool s2.2) rfl
          have hwb0 : w.heap.size ≤ g := Nat.le_of_lt hwg
          have e1 : EE = if s2.2 then ({ zEvt with kind := (kk : Int), tick := a0, node := 0, who := 0 }, s2) else rBody L kk a0 0 0 s2 := by
            rw [hEE.out]
            unfold rEvt
            simp only [q0.out, q1.out, hkk.out]
            simp only [rNode, rWho, if_neg (show ¬ 6 ≤ kk by omega), if_neg (show ¬ (6 ≤ kk ∧ kk ≠ 16) from fun h => by omega)]
          replace e1 := Lib.hid e1
          cases hb : s2.2
          · rw [hb] at c2
            have P1 := P0.out
            have eE : EE = rBody L kk a0 0 0 s2 := by rw [e1.out, hb]; exact if_neg (by decide)
            rw [eE] at P1
            clear P0 e1 eE hEE
            have hX := h0.blk
            have hX' : v2.heap[w1.heap.size]? = some (Obj.cells (ev (kk : Nat) a0 0 0).cells.toArray 45) := hX
            have C := devr_calls L w v2 g _ s2 h0.ok kk hk16 a0 0 0
            obtain ⟨xe, sz, qz⟩ : ∃ a z, rBody L kk a0 0 0 s2 = (a, z) := ⟨_, _, rfl⟩
            have hP := rbody_out fewL (k := kk) (t := a0) (n := 0) (w := 0) (s := s2) hk16 hI0 i64_zero i64_zero h0.ok.shs
            rw [qz] at C hP P1
            replace P1 := Lib.hid P1
            clear qz
            go_upto_region 18 with (fail)
            clear c2 bk
            with_reducible refine wp_region_lit ?_
            with_reducible refine wpList_cutAt 1 ?_
            simp only [List.take_succ_cons, List.take_zero, List.drop_succ_cons, List.drop_zero]
            repeat (first | go_values | go_skip | go_guarded | go_step | go_upon)
            with_reducible refine CutQ.go_ ?_
            with_reducible refine wpList_load_row rfl 45 (.tmp 5) rfl w1.heap.size (by kernel_rfl) 45 (ev (kk : Nat) a0 0 0).cells.toArray (0, 0) _ hX' Tryz.underlying45 (by kernel_rfl) (by kernel_rfl) ?_
            go_frame
            with_reducible refine wpList_cutAt 1 ?_
            simp only [List.take_succ_cons, List.take_zero, List.drop_succ_cons, List.drop_zero]
            go_wp2_with (go_at_call 47; refine C.mono ?_; rintro _ wd ⟨x, rfl, hx, N, RB⟩; replace hx := Lib.hid hx; have h1 := h0.call RB; have hN := N.older (B' := w1.heap.size + 1) h0.size; clear C RB h0 hX hX' N)
            with_reducible refine CutQ.go_ ?_
            have bX' : wd.heap[w1.heap.size]? = some (Obj.cells (ev (kk : Nat) a0 0 0).cells.toArray 45) := h1.blk
            with_reducible refine wpList_store_row rfl 45 (.tmp 5) (.tmp 64) rfl w1.heap.size x.cells.toArray (by kernel_rfl) (by kernel_rfl) 45 (ev (kk : Nat) a0 0 0).cells.toArray bX' (by kernel_rfl) (by kernel_rfl) (by kernel_rfl) (wpList_nil ?_)
            have h2 := h1.ownRow x.cells.toArray
            have hN2 := hN.setRow (Nat.lt_succ_self w1.heap.size) x.cells.toArray
            revert h2 hN2
            generalize wd.setRow w1.heap.size x.cells.toArray = we
            clear h1 bX' hN
            intro h0 hN
            simp only [Act.put]
            have OK : EvtOK we x := hN.ok (by rw [hx.out]; exact hP.1)
            have SH : ShortE x.abs := by rw [hx.out]; exact ⟨hP.1.object, hP.1.req, hP.1.met, hP.1.ans, hP.1.fet, hP.1.rep, hP.1.bytes, hP.1.keys⟩
            have P2 : Hid (parE s = if sz.2 = false ∧ textE x.abs = 0 ∧ textT x.abs = s then some x.abs else none) := Lib.hid (by rw [P1.out, hx.out])
            clear P1 hx hP
            have hX' : we.heap[w1.heap.size]? = some (Obj.cells x.cells.toArray 45) := h0.blk
            have bRv := h0.older bR2 hwb (by omega)
            go_upto_region 19 with (fail)
            have TC := dtext_calls x we OK SH
            with_reducible refine wp_region_lit ?_
            with_reducible refine wpList_load_row rfl 45 (.tmp 5) rfl w1.heap.size (by kernel_rfl) 45 x.cells.toArray (0, 0) _ hX' Tryz.underlying45 (by kernel_rfl) (by kernel_rfl) ?_
            go_frame
            have hXd := fun (w2 : World) (d : Below we.heap.size we w2) => h0.blk.below d h0.blk.lt
            obtain ⟨A0, c0, n0, bk⟩ := h0.ok.bad_
            have Bv := h0.ok.below
            go_upto_region 20 with (go_at_call 14; refine TC.mono ?_; rintro _ wf ⟨hr0, df⟩; unfold RetTx at hr0; subst hr0; have bRf := bRv.below df bRv.lt; have Bf := Bv.trans (df.mono Bv.size); have bkf := bk.below df bk.lt; have hXf := hXd wf df; have hNf := hN.below df; clear hXd; clear TC df bRv Bv bk h0 hX')
            have c2 := bkf.at_ (i := 2) (v := .bool sz.2) rfl
            clear bkf OK SH
            generalize textE x.abs = TE at *
            generalize textT x.abs = TT at *
            have hq : ((bstr TT).toList == (bstr s).toList) = decide (TT = s) := by rw [bstr_list, bstr_list]; exact Bool.eq_iff_iff.2 (by simp)
            cases hz : sz.2
            case' false =>
              rw [hz] at c2
              by_cases h1 : TE = 0
              case' pos =>
                subst h1
                have h1q : ((0 : Int) != 0) = false := rfl
                by_cases h2 : TT = s
                case' pos =>
                  have P3 : parE s = some x.abs := by rw [P2.out, if_pos ⟨hz, rfl, h2⟩]
                  rw [decide_eq_true h2] at hq
                  clear P2
                  replace P3 := Lib.hid P3
                  replace h2 := Lib.hid h2
                  go_upto_region 22 with (fail)
                  have bR' : wf.heap[w.heap.size]? = some (Obj.cells zEvtR.cells.toArray 45) := bRf
                  have hXf' : wf.heap[w1.heap.size]? = some (Obj.cells x.cells.toArray 45) := hXf
                  with_reducible refine wp_region_lit ?_
                  with_reducible refine wpList_load_row rfl 45 (.tmp 5) rfl w1.heap.size (by kernel_rfl) 45 x.cells.toArray (0, 0) _ hXf' Tryz.underlying45 (by kernel_rfl) (by kernel_rfl) ?_
                  go_frame
                  with_reducible refine wpList_store_row rfl 45 (.tmp 2) (.tmp 84) rfl w.heap.size x.cells.toArray (by kernel_rfl) (by kernel_rfl) 45 zEvtR.cells.toArray bR' (by kernel_rfl) (by kernel_rfl) (by kernel_rfl) ?_
                  have bT : (wf.setRow w.heap.size x.cells.toArray).heap[w.heap.size]? = some (Obj.cells x.cells.toArray 45) := bRf.setRow_ _
                  have BT := below_setRow Bf (Nat.le_refl w.heap.size) x.cells.toArray
                  simp only [Act.put]
                  repeat go_step
                  (try simp only [Exit.inBlock, Exit.then])
                  refine bodyPost_ret (results_row_tmp rfl _ _ w.heap.size 45 x.cells.toArray (0, 0) _ (by kernel_rfl) bT Tryz.underlying45 (by kernel_rfl) (by kernel_rfl) (.int .i64 0) (by kernel_rfl)) rfl ?_
                  exact RetPar.yes P3.out ((hNf.setRow (by omega) _).older (by omega)) BT
                case' neg =>
                  have P3 : parE s = none := by rw [P2.out, if_neg (fun h => h2 h.2.2)]
                  rw [decide_eq_false h2] at hq
                  clear P2
                  replace P3 := Lib.hid P3
                  replace h2 := Lib.hid h2
                  go_upto_region 21 with (fail)
              case' neg =>
                have h1q : (TE != 0) = true := bne_iff_ne.2 h1
                have P3 : parE s = none := by rw [P2.out, if_neg (fun h => h1 h.2.1)]
                clear P2 hq h1
                replace P3 := Lib.hid P3
                go_upto_region 21 with (fail)
            case' true =>
              rw [hz] at c2
              have P3 : parE s = none := by rw [P2.out, if_neg (fun h => by rw [hz] at h; cases h.1)]
              clear P2 hq
              replace P3 := Lib.hid P3
              go_upto_region 21 with (fail)
            all_goals
              (have bR' : wf.heap[w.heap.size]? = some (Obj.cells zEvtR.cells.toArray 45) := bRf
               with_reducible refine wp_region_lit ?_
               with_reducible refine wpList_build_eq rfl 45 _ rfl zEvtR.cells.toArray (by kernel_rfl) ?_
               go_frame
               with_reducible refine wpList_store_row rfl 45 (.tmp 2) (.tmp 83) rfl w.heap.size zEvtR.cells.toArray (by kernel_rfl) (by kernel_rfl) 45 zEvtR.cells.toArray bR' (by kernel_rfl) (by kernel_rfl) (by kernel_rfl) ?_
               have bT : (wf.setRow w.heap.size zEvtR.cells.toArray).heap[w.heap.size]? = some (Obj.cells zEvtR.cells.toArray 45) := Blk.setRow_ (w := wf) (g := w.heap.size) (t := 45) (cs := zEvtR.cells.toArray) bRf _
               have BT := below_setRow Bf (Nat.le_refl w.heap.size) zEvtR.cells.toArray
               simp only [Act.put]
               repeat go_step
               (try simp only [Exit.inBlock, Exit.then])
               refine bodyPost_ret (results_row_tmp rfl _ _ w.heap.size 45 zEvtR.cells.toArray (0, 0) _ (by kernel_rfl) bT Tryz.underlying45 (by kernel_rfl) (by kernel_rfl) (.int .i64 2) (by kernel_rfl)) rfl ?_
               exact RetPar.no P3.out BT)
          · rw [hb] at c2
            have P1 : parE s = none := by rw [P0.out]; exact if_neg (fun h => by have h1 := h.1; rw [e1.out, hb, if_pos rfl] at h1; dsimp only at h1; rw [hb] at h1; cases h1)
            clear P0 bk e1 hEE
            have OK : EvtOK v2 (ev (kk : Nat) a0 0 0) := by
              have z := zEvtR_ok v2
              exact ⟨⟨by show (-9223372036854775808 : Int) ≤ (kk : Int); omega, by show (kk : Int) ≤ 9223372036854775807; omega⟩, hI0, i64_zero, i64_zero, z.req, z.met, z.ans, z.fet, z.rep, z.bytes, z.keys⟩
            have SH : ShortE (ev (kk : Nat) a0 0 0).abs := by
              have z := zEvt_p (k := 0) (t := 0) (n := 0) (w := 0) ⟨by decide, by decide⟩ i64_zero i64_zero i64_zero
              exact ⟨z.object, z.req, z.met, z.ans, z.fet, z.rep, z.bytes, z.keys⟩
            have hX' : v2.heap[w1.heap.size]? = some (Obj.cells (ev (kk : Nat) a0 0 0).cells.toArray 45) := h0.blk
            have bRv := h0.older bR2 hwb (by omega)
            go_upto_region 19 with (fail)
            have TC := dtext_calls (ev (kk : Nat) a0 0 0) v2 OK SH
            with_reducible refine wp_region_lit ?_
            with_reducible refine wpList_load_row rfl 45 (.tmp 5) rfl w1.heap.size (by kernel_rfl) 45 (ev (kk : Nat) a0 0 0).cells.toArray (0, 0) _ hX' Tryz.underlying45 (by kernel_rfl) (by kernel_rfl) ?_
            go_frame
            obtain ⟨A0, c0, n0, bk⟩ := h0.ok.bad_
            have Bv := h0.ok.below
            go_upto_region 20 with (go_at_call 14; refine TC.mono ?_; rintro _ wf ⟨hr0, df⟩; unfold RetTx at hr0; subst hr0; have bRf := bRv.below df bRv.lt; have Bf := Bv.trans (df.mono Bv.size); have bkf := bk.below df bk.lt; clear TC df bRv Bv bk h0 hX')
            have c2 := bkf.at_ (i := 2) (v := .bool s2.2) rfl
            clear bkf OK SH
            rw [hb] at c2
            go_upto_region 21 with (fail)
            have bR' : wf.heap[w.heap.size]? = some (Obj.cells zEvtR.cells.toArray 45) := bRf
            with_reducible refine wp_region_lit ?_
            with_reducible refine wpList_build_eq rfl 45 _ rfl zEvtR.cells.toArray (by kernel_rfl) ?_
            go_frame
            with_reducible refine wpList_store_row rfl 45 (.tmp 2) (.tmp 83) rfl w.heap.size zEvtR.cells.toArray (by kernel_rfl) (by kernel_rfl) 45 zEvtR.cells.toArray bR' (by kernel_rfl) (by kernel_rfl) (by kernel_rfl) ?_
            have bT : (wf.setRow w.heap.size zEvtR.cells.toArray).heap[w.heap.size]? = some (Obj.cells zEvtR.cells.toArray 45) := Blk.setRow_ (w := wf) (g := w.heap.size) (t := 45) (cs := zEvtR.cells.toArray) bRf _
            have BT := below_setRow Bf (Nat.le_refl w.heap.size) zEvtR.cells.toArray
            simp only [Act.put]
            repeat go_step
            (try simp only [Exit.inBlock, Exit.then])
            refine bodyPost_ret (results_row_tmp rfl _ _ w.heap.size 45 zEvtR.cells.toArray (0, 0) _ (by kernel_rfl) bT Tryz.underlying45 (by kernel_rfl) (by kernel_rfl) (.int .i64 2) (by kernel_rfl)) rfl ?_
            exact RetPar.no P1 BT
        · -- both
          obtain ⟨a2, s3, q2⟩ : ∃ a s', rNum s2 = (a, s') := ⟨_, _, rfl⟩
          have hI2 := rNum_I s2
          rw [q2] at hI2
          have C := dnumr_calls L w v2 g _ s2 h0.ok
          rw [q2] at C
          replace q2 := Lib.hid q2
          go_upto_region 15 with (go_at_call 45; refine C.mono ?_; rintro _ wn ⟨rfl, RB⟩; have h1 := h0.call RB; have k0 := h1.at_ (i := 2) (v := .int .i64 0) rfl; have f0 := h1.blk.frozen 2; have y0 := h1.at_ (i := 0) (v := .int .i64 (kk : Int)) rfl; clear h0 RB C x0)
          with_reducible refine code_abs (fun w' => DHolds L w (w1.alloc (.cells zEvtR.cells.toArray 45)) g w1.heap.size (fun k => k = g) 45 s3 (ev (kk : Nat) a0 a2 0).cells.toArray w') ?_ ?_
          · exact (h1.set 2 (.int .i64 a2)).to (by kernel_rfl)
          clear h1 k0 f0 y0
          rintro v3 h0
          have x0 := h0.at_ (i := 0) (v := .int .i64 (kk : Int)) rfl
          obtain ⟨a3, s4, q3⟩ : ∃ a s', rNum s3 = (a, s') := ⟨_, _, rfl⟩
          have hI3 := rNum_I s3
          rw [q3] at hI3
          have C := dnumr_calls L w v3 g _ s3 h0.ok
          rw [q3] at C
          replace q3 := Lib.hid q3
          go_upto_region 17 with (go_at_call 45; refine C.mono ?_; rintro _ wn ⟨rfl, RB⟩; have h1 := h0.call RB; have k0 := h1.at_ (i := 3) (v := .int .i64 0) rfl; have f0 := h1.blk.frozen 3; have y0 := h1.at_ (i := 0) (v := .int .i64 (kk : Int)) rfl; clear h0 RB C x0)
          with_reducible refine code_abs (fun w' => DHolds L w (w1.alloc (.cells zEvtR.cells.toArray 45)) g w1.heap.size (fun k => k = g) 45 s4 (ev (kk : Nat) a0 a2 a3).cells.toArray w') ?_ ?_
          · exact (h1.set 3 (.int .i64 a3)).to (by kernel_rfl)
          clear h1 k0 f0 y0
          rintro v4 h0
          have x0 := h0.at_ (i := 0) (v := .int .i64 (kk : Int)) rfl
          go_upto_region 17 with (fail)
          clear x0
          obtain ⟨A0, c0, n0, bk⟩ := h0.ok.bad_
          have c2 := bk.at_ (i := 2) (v := .bool s4.2) rfl
          have hwb0 : w.heap.size ≤ g := Nat.le_of_lt hwg
          have e1 : EE = if s4.2 then ({ zEvt with kind := (kk : Int), tick := a0, node := a2, who := a3 }, s4) else rBody L kk a0 a2 a3 s4 := by
            rw [hEE.out]
            unfold rEvt
            simp only [q0.out, q1.out, hkk.out]
            simp only [rNode, rWho, if_pos hr, if_pos (show 6 ≤ kk ∧ kk ≠ 16 from ⟨hr, hr2⟩), q2.out, q3.out]
          replace e1 := Lib.hid e1
          cases hb : s4.2
          · rw [hb] at c2
            have P1 := P0.out
            have eE : EE = rBody L kk a0 a2 a3 s4 := by rw [e1.out, hb]; exact if_neg (by decide)
            rw [eE] at P1
            clear P0 e1 eE hEE
            have hX := h0.blk
            have hX' : v4.heap[w1.heap.size]? = some (Obj.cells (ev (kk : Nat) a0 a2 a3).cells.toArray 45) := hX
            have C := devr_calls L w v4 g _ s4 h0.ok kk hk16 a0 a2 a3
            obtain ⟨xe, sz, qz⟩ : ∃ a z, rBody L kk a0 a2 a3 s4 = (a, z) := ⟨_, _, rfl⟩
            have hP := rbody_out fewL (k := kk) (t := a0) (n := a2) (w := a3) (s := s4) hk16 hI0 hI2 hI3 h0.ok.shs
            rw [qz] at C hP P1
            replace P1 := Lib.hid P1
            clear qz
            go_upto_region 18 with (fail)
            clear c2 bk
            with_reducible refine wp_region_lit ?_
            with_reducible refine wpList_cutAt 1 ?_
            simp only [List.take_succ_cons, List.take_zero, List.drop_succ_cons, List.drop_zero]
            repeat (first | go_values | go_skip | go_guarded | go_step | go_upon)
            with_reducible refine CutQ.go_ ?_
            with_reducible refine wpList_load_row rfl 45 (.tmp 5) rfl w1.heap.size (by kernel_rfl) 45 (ev (kk : Nat) a0 a2 a3).cells.toArray (0, 0) _ hX' Tryz.underlying45 (by kernel_rfl) (by kernel_rfl) ?_
            go_frame
            with_reducible refine wpList_cutAt 1 ?_
            simp only [List.take_succ_cons, List.take_zero, List.drop_succ_cons, List.drop_zero]
            go_wp2_with (go_at_call 47; refine C.mono ?_; rintro _ wd ⟨x, rfl, hx, N, RB⟩; replace hx := Lib.hid hx; have h1 := h0.call RB; have hN := N.older (B' := w1.heap.size + 1) h0.size; clear C RB h0 hX hX' N)
            with_reducible refine CutQ.go_ ?_
            have bX' : wd.heap[w1.heap.size]? = some (Obj.cells (ev (kk : Nat) a0 a2 a3).cells.toArray 45) := h1.blk
            with_reducible refine wpList_store_row rfl 45 (.tmp 5) (.tmp 64) rfl w1.heap.size x.cells.toArray (by kernel_rfl) (by kernel_rfl) 45 (ev (kk : Nat) a0 a2 a3).cells.toArray bX' (by kernel_rfl) (by kernel_rfl) (by kernel_rfl) (wpList_nil ?_)
            have h2 := h1.ownRow x.cells.toArray
            have hN2 := hN.setRow (Nat.lt_succ_self w1.heap.size) x.cells.toArray
            revert h2 hN2
            generalize wd.setRow w1.heap.size x.cells.toArray = we
            clear h1 bX' hN
            intro h0 hN
            simp only [Act.put]
            have OK : EvtOK we x := hN.ok (by rw [hx.out]; exact hP.1)
            have SH : ShortE x.abs := by rw [hx.out]; exact ⟨hP.1.object, hP.1.req, hP.1.met, hP.1.ans, hP.1.fet, hP.1.rep, hP.1.bytes, hP.1.keys⟩
            have P2 : Hid (parE s = if sz.2 = false ∧ textE x.abs = 0 ∧ textT x.abs = s then some x.abs else none) := Lib.hid (by rw [P1.out, hx.out])
            clear P1 hx hP
            have hX' : we.heap[w1.heap.size]? = some (Obj.cells x.cells.toArray 45) := h0.blk
            have bRv := h0.older bR2 hwb (by omega)
            go_upto_region 19 with (fail)
            have TC := dtext_calls x we OK SH
            with_reducible refine wp_region_lit ?_
            with_reducible refine wpList_load_row rfl 45 (.tmp 5) rfl w1.heap.size (by kernel_rfl) 45 x.cells.toArray (0, 0) _ hX' Tryz.underlying45 (by kernel_rfl) (by kernel_rfl) ?_
            go_frame
            have hXd := fun (w2 : World) (d : Below we.heap.size we w2) => h0.blk.below d h0.blk.lt
            obtain ⟨A0, c0, n0, bk⟩ := h0.ok.bad_
            have Bv := h0.ok.below
            go_upto_region 20 with (go_at_call 14; refine TC.mono ?_; rintro _ wf ⟨hr0, df⟩; unfold RetTx at hr0; subst hr0; have bRf := bRv.below df bRv.lt; have Bf := Bv.trans (df.mono Bv.size); have bkf := bk.below df bk.lt; have hXf := hXd wf df; have hNf := hN.below df; clear hXd; clear TC df bRv Bv bk h0 hX')
            have c2 := bkf.at_ (i := 2) (v := .bool sz.2) rfl
            clear bkf OK SH
            generalize textE x.abs = TE at *
            generalize textT x.abs = TT at *
            have hq : ((bstr TT).toList == (bstr s).toList) = decide (TT = s) := by rw [bstr_list, bstr_list]; exact Bool.eq_iff_iff.2 (by simp)
            cases hz : sz.2
            case' false =>
              rw [hz] at c2
              by_cases h1 : TE = 0
              case' pos =>
                subst h1
                have h1q : ((0 : Int) != 0) = false := rfl
                by_cases h2 : TT = s
                case' pos =>
                  have P3 : parE s = some x.abs := by rw [P2.out, if_pos ⟨hz, rfl, h2⟩]
                  rw [decide_eq_true h2] at hq
                  clear P2
                  replace P3 := Lib.hid P3
                  replace h2 := Lib.hid h2
                  go_upto_region 22 with (fail)
                  have bR' : wf.heap[w.heap.size]? = some (Obj.cells zEvtR.cells.toArray 45) := bRf
                  have hXf' : wf.heap[w1.heap.size]? = some (Obj.cells x.cells.toArray 45) := hXf
                  with_reducible refine wp_region_lit ?_
                  with_reducible refine wpList_load_row rfl 45 (.tmp 5) rfl w1.heap.size (by kernel_rfl) 45 x.cells.toArray (0, 0) _ hXf' Tryz.underlying45 (by kernel_rfl) (by kernel_rfl) ?_
                  go_frame
                  with_reducible refine wpList_store_row rfl 45 (.tmp 2) (.tmp 84) rfl w.heap.size x.cells.toArray (by kernel_rfl) (by kernel_rfl) 45 zEvtR.cells.toArray bR' (by kernel_rfl) (by kernel_rfl) (by kernel_rfl) ?_
                  have bT : (wf.setRow w.heap.size x.cells.toArray).heap[w.heap.size]? = some (Obj.cells x.cells.toArray 45) := bRf.setRow_ _
                  have BT := below_setRow Bf (Nat.le_refl w.heap.size) x.cells.toArray
                  simp only [Act.put]
                  repeat go_step
                  (try simp only [Exit.inBlock, Exit.then])
                  refine bodyPost_ret (results_row_tmp rfl _ _ w.heap.size 45 x.cells.toArray (0, 0) _ (by kernel_rfl) bT Tryz.underlying45 (by kernel_rfl) (by kernel_rfl) (.int .i64 0) (by kernel_rfl)) rfl ?_
                  exact RetPar.yes P3.out ((hNf.setRow (by omega) _).older (by omega)) BT
                case' neg =>
                  have P3 : parE s = none := by rw [P2.out, if_neg (fun h => h2 h.2.2)]
                  rw [decide_eq_false h2] at hq
                  clear P2
                  replace P3 := Lib.hid P3
                  replace h2 := Lib.hid h2
                  go_upto_region 21 with (fail)
              case' neg =>
                have h1q : (TE != 0) = true := bne_iff_ne.2 h1
                have P3 : parE s = none := by rw [P2.out, if_neg (fun h => h1 h.2.1)]
                clear P2 hq h1
                replace P3 := Lib.hid P3
                go_upto_region 21 with (fail)
            case' true =>
              rw [hz] at c2
              have P3 : parE s = none := by rw [P2.out, if_neg (fun h => by rw [hz] at h; cases h.1)]
              clear P2 hq
              replace P3 := Lib.hid P3
              go_upto_region 21 with (fail)
            all_goals
              (have bR' : wf.heap[w.heap.size]? = some (Obj.cells zEvtR.cells.toArray 45) := bRf
               with_reducible refine wp_region_lit ?_
               with_reducible refine wpList_build_eq rfl 45 _ rfl zEvtR.cells.toArray (by kernel_rfl) ?_
               go_frame
               with_reducible refine wpList_store_row rfl 45 (.tmp 2) (.tmp 83) rfl w.heap.size zEvtR.cells.toArray (by kernel_rfl) (by kernel_rfl) 45 zEvtR.cells.toArray bR' (by kernel_rfl) (by kernel_rfl) (by kernel_rfl) ?_
               have bT : (wf.setRow w.heap.size zEvtR.cells.toArray).heap[w.heap.size]? = some (Obj.cells zEvtR.cells.toArray 45) := Blk.setRow_ (w := wf) (g := w.heap.size) (t := 45) (cs := zEvtR.cells.toArray) bRf _
               have BT := below_setRow Bf (Nat.le_refl w.heap.size) zEvtR.cells.toArray
               simp only [Act.put]
               repeat go_step
               (try simp only [Exit.inBlock, Exit.then])
               refine bodyPost_ret (results_row_tmp rfl _ _ w.heap.size 45 zEvtR.cells.toArray (0, 0) _ (by kernel_rfl) bT Tryz.underlying45 (by kernel_rfl) (by kernel_rfl) (.int .i64 2) (by kernel_rfl)) rfl ?_
               exact RetPar.no P3.out BT)
          · rw [hb] at c2
            have P1 : parE s = none := by rw [P0.out]; exact if_neg (fun h => by have h1 := h.1; rw [e1.out, hb, if_pos rfl] at h1; dsimp only at h1; rw [hb] at h1; cases h1)
            clear P0 bk e1 hEE
            have OK : EvtOK v4 (ev (kk : Nat) a0 a2 a3) := by
              have z := zEvtR_ok v4
              exact ⟨⟨by show (-9223372036854775808 : Int) ≤ (kk : Int); omega, by show (kk : Int) ≤ 9223372036854775807; omega⟩, hI0, hI2, hI3, z.req, z.met, z.ans, z.fet, z.rep, z.bytes, z.keys⟩
            have SH : ShortE (ev (kk : Nat) a0 a2 a3).abs := by
              have z := zEvt_p (k := 0) (t := 0) (n := 0) (w := 0) ⟨by decide, by decide⟩ i64_zero i64_zero i64_zero
              exact ⟨z.object, z.req, z.met, z.ans, z.fet, z.rep, z.bytes, z.keys⟩
            have hX' : v4.heap[w1.heap.size]? = some (Obj.cells (ev (kk : Nat) a0 a2 a3).cells.toArray 45) := h0.blk
            have bRv := h0.older bR2 hwb (by omega)
            go_upto_region 19 with (fail)
            have TC := dtext_calls (ev (kk : Nat) a0 a2 a3) v4 OK SH
            with_reducible refine wp_region_lit ?_
            with_reducible refine wpList_load_row rfl 45 (.tmp 5) rfl w1.heap.size (by kernel_rfl) 45 (ev (kk : Nat) a0 a2 a3).cells.toArray (0, 0) _ hX' Tryz.underlying45 (by kernel_rfl) (by kernel_rfl) ?_
            go_frame
            obtain ⟨A0, c0, n0, bk⟩ := h0.ok.bad_
            have Bv := h0.ok.below
            go_upto_region 20 with (go_at_call 14; refine TC.mono ?_; rintro _ wf ⟨hr0, df⟩; unfold RetTx at hr0; subst hr0; have bRf := bRv.below df bRv.lt; have Bf := Bv.trans (df.mono Bv.size); have bkf := bk.below df bk.lt; clear TC df bRv Bv bk h0 hX')
            have c2 := bkf.at_ (i := 2) (v := .bool s4.2) rfl
            clear bkf OK SH
            rw [hb] at c2
            go_upto_region 21 with (fail)
            have bR' : wf.heap[w.heap.size]? = some (Obj.cells zEvtR.cells.toArray 45) := bRf
            with_reducible refine wp_region_lit ?_
            with_reducible refine wpList_build_eq rfl 45 _ rfl zEvtR.cells.toArray (by kernel_rfl) ?_
            go_frame
            with_reducible refine wpList_store_row rfl 45 (.tmp 2) (.tmp 83) rfl w.heap.size zEvtR.cells.toArray (by kernel_rfl) (by kernel_rfl) 45 zEvtR.cells.toArray bR' (by kernel_rfl) (by kernel_rfl) (by kernel_rfl) ?_
            have bT : (wf.setRow w.heap.size zEvtR.cells.toArray).heap[w.heap.size]? = some (Obj.cells zEvtR.cells.toArray 45) := Blk.setRow_ (w := wf) (g := w.heap.size) (t := 45) (cs := zEvtR.cells.toArray) bRf _
            have BT := below_setRow Bf (Nat.le_refl w.heap.size) zEvtR.cells.toArray
            simp only [Act.put]
            repeat go_step
            (try simp only [Exit.inBlock, Exit.then])
            refine bodyPost_ret (results_row_tmp rfl _ _ w.heap.size 45 zEvtR.cells.toArray (0, 0) _ (by kernel_rfl) bT Tryz.underlying45 (by kernel_rfl) (by kernel_rfl) (.int .i64 2) (by kernel_rfl)) rfl ?_
            exact RetPar.no P1 BT
        · -- the node alone
          replace hr := Lib.hid hr
          obtain ⟨a2, s3, q2⟩ : ∃ a s', rNum s2 = (a, s') := ⟨_, _, rfl⟩
          have hI2 := rNum_I s2
          rw [q2] at hI2
          have C := dnumr_calls L w v2 g _ s2 h0.ok
          rw [q2] at C
          replace q2 := Lib.hid q2
          go_upto_region 15 with (go_at_call 45; refine C.mono ?_; rintro _ wn ⟨rfl, RB⟩; have h1 := h0.call RB; have k0 := h1.at_ (i := 2) (v := .int .i64 0) rfl; have f0 := h1.blk.frozen 2; have y0 := h1.at_ (i := 0) (v := .int .i64 (kk : Int)) rfl; clear h0 RB C x0)
          with_reducible refine code_abs (fun w' => DHolds L w (w1.alloc (.cells zEvtR.cells.toArray 45)) g w1.heap.size (fun k => k = g) 45 s3 (ev (kk : Nat) a0 a2 0).cells.toArray w') ?_ ?_
          · exact (h1.set 2 (.int .i64 a2)).to (by kernel_rfl)
          clear h1 k0 f0 y0
          rintro v3 h0
          have x0 := h0.at_ (i := 0) (v := .int .i64 (kk : Int)) rfl
          go_upto_region 17 with (fail)
          clear x0
          obtain ⟨A0, c0, n0, bk⟩ := h0.ok.bad_
          have c2 := bk.at_ (i := 2) (v := .bool s3.2) rfl
          have hwb0 : w.heap.size ≤ g := Nat.le_of_lt hwg
          have e1 : EE = if s3.2 then ({ zEvt with kind := (kk : Int), tick := a0, node := a2, who := 0 }, s3) else rBody L kk a0 a2 0 s3 := by
            rw [hEE.out]
            unfold rEvt
            simp only [q0.out, q1.out, hkk.out]
            simp only [rNode, rWho, if_pos (show 6 ≤ kk by have := hr.out; omega), if_neg (show ¬ (6 ≤ kk ∧ kk ≠ 16) from fun h => h.2 hr.out), q2.out]
          replace e1 := Lib.hid e1
          cases hb : s3.2
          · rw [hb] at c2
            have P1 := P0.out
            have eE : EE = rBody L kk a0 a2 0 s3 := by rw [e1.out, hb]; exact if_neg (by decide)
            rw [eE] at P1
            clear P0 e1 eE hEE
            have hX := h0.blk
            have hX' : v3.heap[w1.heap.size]? = some (Obj.cells (ev (kk : Nat) a0 a2 0).cells.toArray 45) := hX
            have C := devr_calls L w v3 g _ s3 h0.ok kk hk16 a0 a2 0
            obtain ⟨xe, sz, qz⟩ : ∃ a z, rBody L kk a0 a2 0 s3 = (a, z) := ⟨_, _, rfl⟩
            have hP := rbody_out fewL (k := kk) (t := a0) (n := a2) (w := 0) (s := s3) hk16 hI0 hI2 i64_zero h0.ok.shs
            rw [qz] at C hP P1
            replace P1 := Lib.hid P1
            clear qz
            go_upto_region 18 with (fail)
            clear c2 bk
            with_reducible refine wp_region_lit ?_
            with_reducible refine wpList_cutAt 1 ?_
            simp only [List.take_succ_cons, List.take_zero, List.drop_succ_cons, List.drop_zero]
            repeat (first | go_values | go_skip | go_guarded | go_step | go_upon)
            with_reducible refine CutQ.go_ ?_
            with_reducible refine wpList_load_row rfl 45 (.tmp 5) rfl w1.heap.size (by kernel_rfl) 45 (ev (kk : Nat) a0 a2 0).cells.toArray (0, 0) _ hX' Tryz.underlying45 (by kernel_rfl) (by kernel_rfl) ?_
            go_frame
            with_reducible refine wpList_cutAt 1 ?_
            simp only [List.take_succ_cons, List.take_zero, List.drop_succ_cons, List.drop_zero]
            go_wp2_with (go_at_call 47; refine C.mono ?_; rintro _ wd ⟨x, rfl, hx, N, RB⟩; replace hx := Lib.hid hx; have h1 := h0.call RB; have hN := N.older (B' := w1.heap.size + 1) h0.size; clear C RB h0 hX hX' N)
            with_reducible refine CutQ.go_ ?_
            have bX' : wd.heap[w1.heap.size]? = some (Obj.cells (ev (kk : Nat) a0 a2 0).cells.toArray 45) := h1.blk
            with_reducible refine wpList_store_row rfl 45 (.tmp 5) (.tmp 64) rfl w1.heap.size x.cells.toArray (by kernel_rfl) (by kernel_rfl) 45 (ev (kk : Nat) a0 a2 0).cells.toArray bX' (by kernel_rfl) (by kernel_rfl) (by kernel_rfl) (wpList_nil ?_)
            have h2 := h1.ownRow x.cells.toArray
            have hN2 := hN.setRow (Nat.lt_succ_self w1.heap.size) x.cells.toArray
            revert h2 hN2
            generalize wd.setRow w1.heap.size x.cells.toArray = we
            clear h1 bX' hN
            intro h0 hN
            simp only [Act.put]
            have OK : EvtOK we x := hN.ok (by rw [hx.out]; exact hP.1)
            have SH : ShortE x.abs := by rw [hx.out]; exact ⟨hP.1.object, hP.1.req, hP.1.met, hP.1.ans, hP.1.fet, hP.1.rep, hP.1.bytes, hP.1.keys⟩
            have P2 : Hid (parE s = if sz.2 = false ∧ textE x.abs = 0 ∧ textT x.abs = s then some x.abs else none) := Lib.hid (by rw [P1.out, hx.out])
            clear P1 hx hP
            have hX' : we.heap[w1.heap.size]? = some (Obj.cells x.cells.toArray 45) := h0.blk
            have bRv := h0.older bR2 hwb (by omega)
            go_upto_region 19 with (fail)
            have TC := dtext_calls x we OK SH
            with_reducible refine wp_region_lit ?_
            with_reducible refine wpList_load_row rfl 45 (.tmp 5) rfl w1.heap.size (by kernel_rfl) 45 x.cells.toArray (0, 0) _ hX' Tryz.underlying45 (by kernel_rfl) (by kernel_rfl) ?_
            go_frame
            have hXd := fun (w2 : World) (d : Below we.heap.size we w2) => h0.blk.below d h0.blk.lt
            obtain ⟨A0, c0, n0, bk⟩ := h0.ok.bad_
            have Bv := h0.ok.below
            go_upto_region 20 with (go_at_call 14; refine TC.mono ?_; rintro _ wf ⟨hr0, df⟩; unfold RetTx at hr0; subst hr0; have bRf := bRv.below df bRv.lt; have Bf := Bv.trans (df.mono Bv.size); have bkf := bk.below df bk.lt; have hXf := hXd wf df; have hNf := hN.below df; clear hXd; clear TC df bRv Bv bk h0 hX')
            have c2 := bkf.at_ (i := 2) (v := .bool sz.2) rfl
            clear bkf OK SH
            generalize textE x.abs = TE at *
            generalize textT x.abs = TT at *
            have hq : ((bstr TT).toList == (bstr s).toList) = decide (TT = s) := by rw [bstr_list, bstr_list]; exact Bool.eq_iff_iff.2 (by simp)
            cases hz : sz.2
            case' false =>
              rw [hz] at c2
              by_cases h1 : TE = 0
              case' pos =>
                subst h1
                have h1q : ((0 : Int) != 0) = false := rfl
                by_cases h2 : TT = s
                case' pos =>
                  have P3 : parE s = some x.abs := by rw [P2.out, if_pos ⟨hz, rfl, h2⟩]
                  rw [decide_eq_true h2] at hq
                  clear P2
                  replace P3 := Lib.hid P3
                  replace h2 := Lib.hid h2
                  go_upto_region 22 with (fail)
                  have bR' : wf.heap[w.heap.size]? = some (Obj.cells zEvtR.cells.toArray 45) := bRf
                  have hXf' : wf.heap[w1.heap.size]? = some (Obj.cells x.cells.toArray 45) := hXf
                  with_reducible refine wp_region_lit ?_
                  with_reducible refine wpList_load_row rfl 45 (.tmp 5) rfl w1.heap.size (by kernel_rfl) 45 x.cells.toArray (0, 0) _ hXf' Tryz.underlying45 (by kernel_rfl) (by kernel_rfl) ?_
                  go_frame
                  with_reducible refine wpList_store_row rfl 45 (.tmp 2) (.tmp 84) rfl w.heap.size x.cells.toArray (by kernel_rfl) (by kernel_rfl) 45 zEvtR.cells.toArray bR' (by kernel_rfl) (by kernel_rfl) (by kernel_rfl) ?_
                  have bT : (wf.setRow w.heap.size x.cells.toArray).heap[w.heap.size]? = some (Obj.cells x.cells.toArray 45) := bRf.setRow_ _
                  have BT := below_setRow Bf (Nat.le_refl w.heap.size) x.cells.toArray
                  simp only [Act.put]
                  repeat go_step
                  (try simp only [Exit.inBlock, Exit.then])
                  refine bodyPost_ret (results_row_tmp rfl _ _ w.heap.size 45 x.cells.toArray (0, 0) _ (by kernel_rfl) bT Tryz.underlying45 (by kernel_rfl) (by kernel_rfl) (.int .i64 0) (by kernel_rfl)) rfl ?_
                  exact RetPar.yes P3.out ((hNf.setRow (by omega) _).older (by omega)) BT
                case' neg =>
                  have P3 : parE s = none := by rw [P2.out, if_neg (fun h => h2 h.2.2)]
                  rw [decide_eq_false h2] at hq
                  clear P2
                  replace P3 := Lib.hid P3
                  replace h2 := Lib.hid h2
                  go_upto_region 21 with (fail)
              case' neg =>
                have h1q : (TE != 0) = true := bne_iff_ne.2 h1
                have P3 : parE s = none := by rw [P2.out, if_neg (fun h => h1 h.2.1)]
                clear P2 hq h1
                replace P3 := Lib.hid P3
                go_upto_region 21 with (fail)
            case' true =>
              rw [hz] at c2
              have P3 : parE s = none := by rw [P2.out, if_neg (fun h => by rw [hz] at h; cases h.1)]
              clear P2 hq
              replace P3 := Lib.hid P3
              go_upto_region 21 with (fail)
            all_goals
              (have bR' : wf.heap[w.heap.size]? = some (Obj.cells zEvtR.cells.toArray 45) := bRf
               with_reducible refine wp_region_lit ?_
               with_reducible refine wpList_build_eq rfl 45 _ rfl zEvtR.cells.toArray (by kernel_rfl) ?_
               go_frame
               with_reducible refine wpList_store_row rfl 45 (.tmp 2) (.tmp 83) rfl w.heap.size zEvtR.cells.toArray (by kernel_rfl) (by kernel_rfl) 45 zEvtR.cells.toArray bR' (by kernel_rfl) (by kernel_rfl) (by kernel_rfl) ?_
               have bT : (wf.setRow w.heap.size zEvtR.cells.toArray).heap[w.heap.size]? = some (Obj.cells zEvtR.cells.toArray 45) := Blk.setRow_ (w := wf) (g := w.heap.size) (t := 45) (cs := zEvtR.cells.toArray) bRf _
               have BT := below_setRow Bf (Nat.le_refl w.heap.size) zEvtR.cells.toArray
               simp only [Act.put]
               repeat go_step
               (try simp only [Exit.inBlock, Exit.then])
               refine bodyPost_ret (results_row_tmp rfl _ _ w.heap.size 45 zEvtR.cells.toArray (0, 0) _ (by kernel_rfl) bT Tryz.underlying45 (by kernel_rfl) (by kernel_rfl) (.int .i64 2) (by kernel_rfl)) rfl ?_
               exact RetPar.no P3.out BT)
          · rw [hb] at c2
            have P1 : parE s = none := by rw [P0.out]; exact if_neg (fun h => by have h1 := h.1; rw [e1.out, hb, if_pos rfl] at h1; dsimp only at h1; rw [hb] at h1; cases h1)
            clear P0 bk e1 hEE
            have OK : EvtOK v3 (ev (kk : Nat) a0 a2 0) := by
              have z := zEvtR_ok v3
              exact ⟨⟨by show (-9223372036854775808 : Int) ≤ (kk : Int); omega, by show (kk : Int) ≤ 9223372036854775807; omega⟩, hI0, hI2, i64_zero, z.req, z.met, z.ans, z.fet, z.rep, z.bytes, z.keys⟩
            have SH : ShortE (ev (kk : Nat) a0 a2 0).abs := by
              have z := zEvt_p (k := 0) (t := 0) (n := 0) (w := 0) ⟨by decide, by decide⟩ i64_zero i64_zero i64_zero
              exact ⟨z.object, z.req, z.met, z.ans, z.fet, z.rep, z.bytes, z.keys⟩
            have hX' : v3.heap[w1.heap.size]? = some (Obj.cells (ev (kk : Nat) a0 a2 0).cells.toArray 45) := h0.blk
            have bRv := h0.older bR2 hwb (by omega)
            go_upto_region 19 with (fail)
            have TC := dtext_calls (ev (kk : Nat) a0 a2 0) v3 OK SH
            with_reducible refine wp_region_lit ?_
            with_reducible refine wpList_load_row rfl 45 (.tmp 5) rfl w1.heap.size (by kernel_rfl) 45 (ev (kk : Nat) a0 a2 0).cells.toArray (0, 0) _ hX' Tryz.underlying45 (by kernel_rfl) (by kernel_rfl) ?_
            go_frame
            obtain ⟨A0, c0, n0, bk⟩ := h0.ok.bad_
            have Bv := h0.ok.below
            go_upto_region 20 with (go_at_call 14; refine TC.mono ?_; rintro _ wf ⟨hr0, df⟩; unfold RetTx at hr0; subst hr0; have bRf := bRv.below df bRv.lt; have Bf := Bv.trans (df.mono Bv.size); have bkf := bk.below df bk.lt; clear TC df bRv Bv bk h0 hX')
            have c2 := bkf.at_ (i := 2) (v := .bool s3.2) rfl
            clear bkf OK SH
            rw [hb] at c2
            go_upto_region 21 with (fail)
            have bR' : wf.heap[w.heap.size]? = some (Obj.cells zEvtR.cells.toArray 45) := bRf
            with_reducible refine wp_region_lit ?_
            with_reducible refine wpList_build_eq rfl 45 _ rfl zEvtR.cells.toArray (by kernel_rfl) ?_
            go_frame
            with_reducible refine wpList_store_row rfl 45 (.tmp 2) (.tmp 83) rfl w.heap.size zEvtR.cells.toArray (by kernel_rfl) (by kernel_rfl) 45 zEvtR.cells.toArray bR' (by kernel_rfl) (by kernel_rfl) (by kernel_rfl) ?_
            have bT : (wf.setRow w.heap.size zEvtR.cells.toArray).heap[w.heap.size]? = some (Obj.cells zEvtR.cells.toArray 45) := Blk.setRow_ (w := wf) (g := w.heap.size) (t := 45) (cs := zEvtR.cells.toArray) bRf _
            have BT := below_setRow Bf (Nat.le_refl w.heap.size) zEvtR.cells.toArray
            simp only [Act.put]
            repeat go_step
            (try simp only [Exit.inBlock, Exit.then])
            refine bodyPost_ret (results_row_tmp rfl _ _ w.heap.size 45 zEvtR.cells.toArray (0, 0) _ (by kernel_rfl) bT Tryz.underlying45 (by kernel_rfl) (by kernel_rfl) (.int .i64 2) (by kernel_rfl)) rfl ?_
            exact RetPar.no P1 BT
end Go.Proofs.YtiokbebodblhaaaGreatDoor
