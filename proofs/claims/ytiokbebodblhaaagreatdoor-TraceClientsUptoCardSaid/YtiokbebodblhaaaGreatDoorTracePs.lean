/-
  Walk of Parse: the event of a line.
-/
import Derived.Test.YtiokbebodblhaaaGreatDoorTraceEw
namespace Go.Proofs.YtiokbebodblhaaaGreatDoor
open Go.RowKit TraceP
attribute [local go_sem] Row.val

theorem index_ne (c : UInt8) (r : Txt) (h : c ≠ 32) : Lib.index (c :: r) [32] = if Lib.index r [32] == -1 then -1 else Lib.index r [32] + 1 := by
  conv => lhs; unfold Lib.index
  rw [if_neg (by simp [Ne.symm h])]
theorem split_words : ∀ s : Txt, Lib.splitK [32] 0 (Lib.count s [32]) s = wordsS s
  | [] => rfl
  | c :: r => by
    have ih := split_words r
    by_cases h : c = 32
    · subst h
      rw [Lib.count_cons_eq, Nat.add_comm]
      unfold wordsS Lib.splitK
      have e : Lib.index (32 :: r) [32] = 0 := by unfold Lib.index; simp
      rw [e, if_pos rfl, ← ih]
      simp
    · rw [Lib.count_cons_ne c 32 r h]
      unfold wordsS
      rw [if_neg h, ← ih]
      cases hn : Lib.count r [32] with
      | zero => simp [Lib.splitK]
      | succ n =>
        have hne : Lib.index r [32] ≠ -1 := fun e => by rw [Lib.count_miss e] at hn; cases hn
        have hge := Lib.index_ge r [32]
        have e1 : (Lib.index r [32] == -1) = false := beq_eq_false_iff_ne.2 hne
        have e2 : (Lib.index r [32] + 1 == -1) = false := beq_eq_false_iff_ne.2 (by omega)
        unfold Lib.splitK
        rw [index_ne c r h, e1]
        simp only [Bool.false_eq_true, if_false, e2]
        rw [show (Lib.index r [32] + 1).toNat = (Lib.index r [32]).toNat + 1 by omega]
        simp only [List.headD_cons, List.tail_cons, List.take_succ_cons, Nat.add_zero, List.length_singleton]
        congr 1
theorem map_bstr {l : List ByteArray} {ws : List Txt} (h : l.map (·.data.toList) = ws) : l = ws.map bstr := by
  rw [← h, List.map_map]
  conv => lhs; rw [← List.map_id l]
  apply List.map_congr_left
  intro x _
  simp [bstr]
theorem fl_tx (l : List Txt) : fl txC l = l.map fun t => Value.string (bstr t) := by
  unfold fl txC
  induction l with
  | nil => rfl
  | cons c l ih => rw [List.flatMap_cons, ih]; rfl
theorem split_calls (s : Txt) (hs : s.length ≤ 1000000) (w : World) (hS : Std w) :
    Calls Tryz.prog 42 #[.string (bstr s), .string ⟨#[32]⟩] w fun e w' => e = .returned (.slice (some ⟨w.heap.size, 0, none⟩) (wordsS s).length (wordsS s).length) ∧ w' = w.alloc (.cells (fl txC (wordsS s)).toArray 9) := by
  obtain ⟨_, _, _, ⟨m, hm⟩, _⟩ := hS
  have e1 : (bstr s).data.toList = s := by simp [bstr]
  have hc : Lib.countB (bstr s) ⟨#[32]⟩ = Lib.count s [32] := by unfold Lib.countB; rw [e1]
  have hl : Lib.splitB ⟨#[32]⟩ 0 (Lib.countB (bstr s) ⟨#[32]⟩) (bstr s) = (wordsS s).map bstr := by
    refine map_bstr ?_
    rw [Lib.splitB_data, hc, e1]
    exact split_words s
  have hn : Lib.countB (bstr s) ⟨#[32]⟩ + 1 = (wordsS s).length := by
    have := Lib.splitB_all ⟨#[32]⟩ (by decide) 0 _ (bstr s) rfl
    rw [hl, List.length_map] at this
    exact this.symm
  refine (Tryz.strings_Split (bstr s) ⟨#[32]⟩ m w (by rw [bstr_size]; omega) hm (by decide)).mono ?_
  rintro e w' ⟨rfl, rfl⟩
  rw [hn, hl, List.map_map, fl_tx]
  exact ⟨rfl, rfl⟩
theorem words_lens : ∀ (s : Txt), ∀ k ∈ wordsS s, k.length ≤ s.length
  | [], k, hk => by simp [wordsS] at hk; subst hk; simp
  | c :: r, k, hk => by
    have ih := words_lens r
    unfold wordsS at hk
    split at hk
    · rcases List.mem_cons.1 hk with rfl | hk
      · simp
      · have := ih k hk; simp; omega
    · have hne := words_ne r
      rcases List.mem_cons.1 hk with rfl | hk
      · have : (wordsS r).headD [] ∈ wordsS r := by
          cases h : wordsS r with
          | nil => exact absurd h hne
          | cons a b => simp
        have := ih _ this
        simp only [List.length_cons]; omega
      · have := ih k (List.mem_of_mem_tail hk); simp; omega
theorem words_many : ∀ (s : Txt), (wordsS s).length ≤ s.length + 1
  | [] => by simp [wordsS]
  | c :: r => by
    have ih := words_many r
    have hne := words_ne r
    unfold wordsS
    split
    · simp; exact ih
    · cases h : wordsS r with
      | nil => exact absurd h hne
      | cons a b => rw [h] at ih; simp at ih ⊢; omega
theorem words_sh {s : Txt} (h : s.length ≤ 65536) : Sh (wordsS s, false) := ⟨fun x hx => Nat.le_trans (words_lens s x hx) h, Nat.le_trans (words_many s) (by omega)⟩
theorem results_row_tmp {P : Program} {fn : Func} {p q : Tmp} {ty : TypeId} (h : fn.results = #[.cell p ty, .tmp q]) (tmps : Array Value) (w : World) (g : Nat) (t : TypeId) (cs : Array Value) (fr : Nat × Nat) (d : TypeDesc)
    (hp : tmps.getD p undef = .pointer (some ⟨g, 0, none⟩)) (hg : w.heap[g]? = some (.cells cs t fr))
    (hu : P.underlying ty = some d) (hd : (match d with | .struct _ | .array _ _ => true | _ => false) = true) (hi : (P.info? ty).map (·.size) = some cs.size) (v : Value) (hv : tmps.getD q undef = v) :
    (results fn tmps).run P w = .ok (.tuple #[.agg cs, v]) w := by
  have hp' : tmps[p]?.getD undef = .pointer (some ⟨g, 0, none⟩) := by simpa using hp
  have hv' : tmps[q]?.getD undef = v := by simpa using hv
  simp [results, h, hp', hv', asAddr, run_loadVar_row w g t ty cs fr d hg hu hd hi]
/-- What Parse tells: an event, and an error's number. -/
noncomputable def parN (s : Txt) : Int := if (parE s).isSome then 0 else 2
def RetPar (w : World) (s : Txt) (r : Ending) (w' : World) : Prop :=
  ∃ e : EvtR, r = .returned (.tuple #[.agg e.cells.toArray, .int .i64 (parN s)]) ∧ e.abs = (parE s).getD zEvt ∧ EvtN w.heap.size w' e ∧ Below w.heap.size w w'
theorem zEvtN (B : Nat) (w : World) : EvtN B w zEvtR := ⟨RowN.none_ _ _ _, RowN.none_ _ _ _, RowN.none_ _ _ _, RowN.none_ _ _ _, RowN.none_ _ _ _, RowN.none_ _ _ _, RowN.none_ _ _ _, RowN.none_ _ _ _, RowN.none_ _ _ _⟩
theorem RetPar.no {w w' : World} {s : Txt} (h : parE s = none) (b : Below w.heap.size w w') : RetPar w s (.returned (.tuple #[.agg zEvtR.cells.toArray, .int .i64 2])) w' :=
  ⟨zEvtR, by unfold parN; rw [h]; rfl, by rw [h]; rfl, zEvtN _ _, b⟩
theorem RetPar.yes {w w' : World} {s : Txt} {e : EvtR} (h : parE s = some e.abs) (n : EvtN w.heap.size w' e) (b : Below w.heap.size w w') : RetPar w s (.returned (.tuple #[.agg e.cells.toArray, .int .i64 0])) w' :=
  ⟨e, by unfold parN; rw [h]; rfl, by rw [h]; rfl, n, b⟩
set_option maxRecDepth 100000 in
set_option maxHeartbeats 6400000 in
theorem parse_calls (w : World) (hS : Std w) (s : Txt) :
    Calls Tryz.prog 15 #[.string (bstr s)] w fun r w' => RetPar w s r w' := by
  have hl : (bstr s).size = s.length := bstr_size _
  have bR0 := Blk.new w 45 zEvtR.cells.toArray
  have B0 := below_new w (.cells zEvtR.cells.toArray 45)
  go_enter Tryz.func15, Tryz.ntmps15
  unfold Tryz.f15
  go_step
  go_step
  with_reducible refine wp_region_lit ?_
  with_reducible refine wpList_cutAt 2 ?_
  simp only [List.take_succ_cons, List.take_zero, List.drop_succ_cons, List.drop_zero]
  repeat (first | go_values | go_skip | go_guarded | go_step | go_upon)
  with_reducible refine CutQ.go_ (wpList_nil ?_)
  go_upto_region 1 with (fail)
  with_reducible refine code_abs (fun w' => Blk w' w.heap.size 45 zEvtR.cells.toArray ∧ Below w.heap.size w w') ?_ ?_
  · exact ⟨bR0, B0⟩
  clear bR0 B0
  rintro wa ⟨bR, B⟩
  by_cases hm : 65536 < s.length
  · have hP : parE s = none := by unfold parE; rw [if_pos hm]
    have d0 : decide ((65536 : Int) < (s.length : Int)) = true := decide_eq_true (by omega)
    go_upto_region 2 with (fail)
    have bR' : wa.heap[w.heap.size]? = some (Obj.cells zEvtR.cells.toArray 45) := bR
    with_reducible refine wp_region_lit ?_
    with_reducible refine wpList_build_eq rfl 45 _ rfl zEvtR.cells.toArray (by kernel_rfl) ?_
    go_frame
    with_reducible refine wpList_store_row rfl 45 (.tmp 2) (.tmp 11) rfl w.heap.size zEvtR.cells.toArray (by kernel_rfl) (by kernel_rfl) 45 zEvtR.cells.toArray bR' (by kernel_rfl) (by kernel_rfl) (by kernel_rfl) ?_
    have bT : (wa.setRow w.heap.size zEvtR.cells.toArray).heap[w.heap.size]? = some (Obj.cells zEvtR.cells.toArray 45) := bR.setRow_ _
    have BT := below_setRow B (Nat.le_refl w.heap.size) zEvtR.cells.toArray
    simp only [Act.put]
    repeat go_step
    (try simp only [Exit.inBlock, Exit.then])
    refine bodyPost_ret (results_row_tmp rfl _ _ w.heap.size 45 zEvtR.cells.toArray (0, 0) _ (by kernel_rfl) bT Tryz.underlying45 (by kernel_rfl) (by kernel_rfl) (.int .i64 2) (by kernel_rfl)) rfl ?_
    exact RetPar.no hP BT
  · have d0 : decide ((65536 : Int) < (s.length : Int)) = false := decide_eq_false (by omega)
    have hs0 : Sh (wordsS s, false) := words_sh (by omega)
    have C := split_calls s (by omega) wa (hS.below B)
    have hwa : w.heap.size < wa.heap.size := bR.lt
    have Bb := below_new wa (.cells (fl txC (wordsS s)).toArray 9)
    have rw0 := RV.new wa (fl txC (wordsS s)) 9 (0, 0)
    have zb : (wa.alloc (.cells (fl txC (wordsS s)).toArray 9)).heap.size = wa.heap.size + 1 := by simp
    have bR1 := bR.alloc (.cells (fl txC (wordsS s)).toArray 9)
    go_upto_region 4 with (go_at_call 42; refine C.mono ?_; rintro _ wb ⟨rfl, rfl⟩; clear C)
    have hq : Hid (pEvt (wordsS s, false) = pEvt (wordsS s, false)) := Lib.hid rfl
    generalize hwd : wordsS s = ws at *
    with_reducible refine code_abs (fun w' => ∃ g, g = wa.heap.size + 1 ∧ ∃ wb, wb.heap.size = g ∧ RdOK wb w' g (fun k => k = g) (ws, false) ∧ Below w.heap.size w wb ∧ Blk wb w.heap.size 45 zEvtR.cells.toArray) ?_ ?_
    · exact ⟨_, rfl, _, zb, ⟨⟨some ⟨wa.heap.size, 0, none⟩, ws.length, by rw [← zb]; exact Blk.new _ _ _, Nat.le_refl _, Nat.le_trans hs0.2 (by decide), RVF.of_low (rw0.below (below_new _ _)) (fun b off e => by injection e with e; injection e with e1; show b < wa.heap.size + 1; omega) (fun k hk => by rw [hk]; exact Nat.le_refl _)⟩, hs0.1, by rw [zb]; exact Nat.le_refl _, rfl, below_new _ _, hs0.2⟩, B.trans (Bb.mono B.size), bR1⟩
    rintro wc ⟨g, eg, wb, zb2, H, Bw, bRb⟩
    rw [← eg]
    clear Bb rw0 zb bR1 bR B eg hwa
    obtain ⟨xe, s1, q⟩ : ∃ a s', pEvt (ws, false) = (a, s') := ⟨_, _, rfl⟩
    have hP := evt_out hs0
    have C := revt_calls wb wc g _ (ws, false) H (hS.below Bw)
    rw [q] at C hP
    clear hq
    replace q := Lib.hid q
    replace hwd := Lib.hid hwd
    with_reducible refine wp_region_lit ?_
    with_reducible refine wpList_cutAt 2 ?_
    simp only [List.take_succ_cons, List.take_zero, List.drop_succ_cons, List.drop_zero]
    go_wp2_with (go_at_call 43; refine C.mono ?_; rintro _ wd ⟨x, rfl, hx, N, R⟩; replace hx := Lib.hid hx; clear C)
    with_reducible refine CutQ.go_ ?_
    with_reducible refine wpList_cutAt 1 ?_
    simp only [List.take_succ_cons, List.take_zero, List.drop_succ_cons, List.drop_zero]
    repeat (first | go_values | go_skip | go_guarded | go_step | go_upon)
    with_reducible refine CutQ.go_ ?_
    with_reducible refine wpList_abs (fun w' => Blk w' wd.heap.size 45 zEvtR.cells.toArray ∧ Below wd.heap.size wd w') ?_ ?_
    · exact ⟨Blk.new wd 45 zEvtR.cells.toArray, below_new wd (.cells zEvtR.cells.toArray 45)⟩
    rintro we0 ⟨bE0, dE0⟩
    have bE' : we0.heap[wd.heap.size]? = some (Obj.cells zEvtR.cells.toArray 45) := bE0
    with_reducible refine wpList_store_row rfl 45 (.tmp 5) (.tmp 17) rfl wd.heap.size x.cells.toArray (by kernel_rfl) (by kernel_rfl) 45 zEvtR.cells.toArray bE' (by kernel_rfl) (by kernel_rfl) (by kernel_rfl) (wpList_nil ?_)
    have bE := bE0.setRow_ x.cells.toArray
    have dE := below_setRow dE0 (Nat.le_refl _) x.cells.toArray
    revert bE dE
    generalize we0.setRow wd.heap.size x.cells.toArray = we
    clear bE' bE0 dE0
    intro bE dE
    simp only [Act.put]
    have H1 := R.ok.kept dE
    have N1 := N.below dE
    have Bd : Below w.heap.size w we := (Bw.trans (R.ok.below.mono Bw.size)).trans (dE.mono (Nat.le_trans Bw.size R.ok.below.size))
    have hwb : w.heap.size < wb.heap.size := bRb.lt
    have bR := (bRb.below R.ok.below hwb).below dE (Nat.lt_of_lt_of_le hwb R.ok.below.size)
    have hNw : EvtN (w.heap.size + 1) we x := N1.older (Nat.le_trans hwb H.below.size)
    have OK := N1.ok (by rw [hx.out]; exact hP.1)
    have FT : Fits (lineW x.abs) := by rw [hx.out]; have := line_lw hP.1; exact ⟨Nat.le_trans this.1 (by decide), this.2⟩
    have SE := hS.below Bd
    obtain ⟨b, hb⟩ : ∃ b, b = wd.heap.size := ⟨_, rfl⟩
    rw [← hb] at bE ⊢
    clear hb dE N N1 R H Bw bRb hP
    obtain ⟨A, c, bk, _⟩ := H1.ex
    have c0 := bk.at_ (i := 0) (v := .slice A s1.1.length c) rfl
    have c1 := bk.at_ (i := 1) (v := .bool s1.2) rfl
    clear H1 bk
    have hX : we.heap[b]? = some (Obj.cells x.cells.toArray 45) := bE
    have P0 : Hid (parE s = if s1.2 = true ∨ s1.1 ≠ [] then none else if textE x.abs = 0 ∧ textT x.abs = s then some x.abs else none) := Lib.hid (by
      unfold parE
      rw [if_neg hm, hwd.out, q.out, hx.out])
    clear q hwd hx
    cases hb : s1.2
    · rw [hb] at c1
      by_cases hn : s1.1 = []
      · have hn0 : s1.1.length = 0 := by rw [hn]; rfl
        rw [hn0] at c0
        have P1 := P0.out
        rw [if_neg (by rw [hb, hn]; simp)] at P1
        replace P1 := Lib.hid P1
        clear P0 hn hn0
        go_upto_region 7 with (fail)
        with_reducible refine wp_region_lit ?_
        with_reducible refine wpList_load_row rfl 45 (.tmp 5) rfl b (by kernel_rfl) 45 x.cells.toArray (0, 0) _ hX Tryz.underlying45 (by kernel_rfl) (by kernel_rfl) ?_
        go_frame
        have TC := tx_calls x we SE OK FT
        go_upto_region 8 with (go_at_call 13; refine TC.mono ?_; rintro _ wf ⟨hr, df⟩; unfold RetTx at hr; subst hr; clear TC)
        have Bf := Bd.trans (df.mono Bd.size)
        have bRf := bR.below df bR.lt
        have hXf : wf.heap[b]? = some (Obj.cells x.cells.toArray 45) := bE.below df bE.lt
        have hNf := hNw.below df
        clear hX bE c0 c1 df Bd bR hNw SE OK FT
        generalize textE x.abs = TE at *
        generalize textT x.abs = TT at *
        by_cases h1 : TE = 0
        · subst h1
          have h1q : ((0 : Int) != 0) = false := rfl
          have hq : ((bstr TT).toList == (bstr s).toList) = decide (TT = s) := by rw [bstr_list, bstr_list]; exact Bool.eq_iff_iff.2 (by simp)
          by_cases h2 : TT = s
          · have P2 := P1.out
            rw [if_pos ⟨rfl, h2⟩] at P2
            replace P2 := Lib.hid P2
            rw [decide_eq_true h2] at hq
            clear P1
            replace h2 := Lib.hid h2
            go_upto_region 10 with (fail)
            have bR' : wf.heap[w.heap.size]? = some (Obj.cells zEvtR.cells.toArray 45) := bRf
            with_reducible refine wp_region_lit ?_
            with_reducible refine wpList_load_row rfl 45 (.tmp 5) rfl b (by kernel_rfl) 45 x.cells.toArray (0, 0) _ hXf Tryz.underlying45 (by kernel_rfl) (by kernel_rfl) ?_
            go_frame
            with_reducible refine wpList_store_row rfl 45 (.tmp 2) (.tmp 44) rfl w.heap.size x.cells.toArray (by kernel_rfl) (by kernel_rfl) 45 zEvtR.cells.toArray bR' (by kernel_rfl) (by kernel_rfl) (by kernel_rfl) ?_
            have bT : (wf.setRow w.heap.size x.cells.toArray).heap[w.heap.size]? = some (Obj.cells x.cells.toArray 45) := bRf.setRow_ _
            have BT := below_setRow Bf (Nat.le_refl w.heap.size) x.cells.toArray
            simp only [Act.put]
            repeat go_step
            (try simp only [Exit.inBlock, Exit.then])
            refine bodyPost_ret (results_row_tmp rfl _ _ w.heap.size 45 x.cells.toArray (0, 0) _ (by kernel_rfl) bT Tryz.underlying45 (by kernel_rfl) (by kernel_rfl) (.int .i64 0) (by kernel_rfl)) rfl ?_
            exact RetPar.yes P2.out ((hNf.setRow (Nat.lt_succ_self _) _).older (Nat.le_succ _)) BT
          · have P2 := P1.out
            rw [if_neg (fun h => h2 h.2)] at P2
            replace P2 := Lib.hid P2
            rw [decide_eq_false h2] at hq
            clear P1
            replace h2 := Lib.hid h2
            go_upto_region 9 with (fail)
            have bR' : wf.heap[w.heap.size]? = some (Obj.cells zEvtR.cells.toArray 45) := bRf
            with_reducible refine wp_region_lit ?_
            with_reducible refine wpList_build_eq rfl 45 _ rfl zEvtR.cells.toArray (by kernel_rfl) ?_
            go_frame
            with_reducible refine wpList_store_row rfl 45 (.tmp 2) (.tmp 43) rfl w.heap.size zEvtR.cells.toArray (by kernel_rfl) (by kernel_rfl) 45 zEvtR.cells.toArray bR' (by kernel_rfl) (by kernel_rfl) (by kernel_rfl) ?_
            have bT : (wf.setRow w.heap.size zEvtR.cells.toArray).heap[w.heap.size]? = some (Obj.cells zEvtR.cells.toArray 45) := bRf.setRow_ _
            have BT := below_setRow Bf (Nat.le_refl w.heap.size) zEvtR.cells.toArray
            simp only [Act.put]
            repeat go_step
            (try simp only [Exit.inBlock, Exit.then])
            refine bodyPost_ret (results_row_tmp rfl _ _ w.heap.size 45 zEvtR.cells.toArray (0, 0) _ (by kernel_rfl) bT Tryz.underlying45 (by kernel_rfl) (by kernel_rfl) (.int .i64 2) (by kernel_rfl)) rfl ?_
            exact RetPar.no P2.out BT
        · have P2 := P1.out
          rw [if_neg (fun h => h1 h.1)] at P2
          replace P2 := Lib.hid P2
          have h1q : (TE != 0) = true := bne_iff_ne.2 h1
          have h1r : (TE == 0) = false := beq_eq_false_iff_ne.2 h1
          clear P1
          replace h1 := Lib.hid h1
          go_upto_region 9 with (fail)
          have bR' : wf.heap[w.heap.size]? = some (Obj.cells zEvtR.cells.toArray 45) := bRf
          with_reducible refine wp_region_lit ?_
          with_reducible refine wpList_build_eq rfl 45 _ rfl zEvtR.cells.toArray (by kernel_rfl) ?_
          go_frame
          with_reducible refine wpList_store_row rfl 45 (.tmp 2) (.tmp 43) rfl w.heap.size zEvtR.cells.toArray (by kernel_rfl) (by kernel_rfl) 45 zEvtR.cells.toArray bR' (by kernel_rfl) (by kernel_rfl) (by kernel_rfl) ?_
          have bT : (wf.setRow w.heap.size zEvtR.cells.toArray).heap[w.heap.size]? = some (Obj.cells zEvtR.cells.toArray 45) := bRf.setRow_ _
          have BT := below_setRow Bf (Nat.le_refl w.heap.size) zEvtR.cells.toArray
          simp only [Act.put]
          repeat go_step
          (try simp only [Exit.inBlock, Exit.then])
          refine bodyPost_ret (results_row_tmp rfl _ _ w.heap.size 45 zEvtR.cells.toArray (0, 0) _ (by kernel_rfl) bT Tryz.underlying45 (by kernel_rfl) (by kernel_rfl) (.int .i64 2) (by kernel_rfl)) rfl ?_
          exact RetPar.no P2.out BT
      · have P2 := P0.out
        rw [if_pos (.inr hn)] at P2
        replace P2 := Lib.hid P2
        have dn : decide ((0 : Int) < (s1.1.length : Int)) = true := decide_eq_true (by have := List.length_pos_iff.2 hn; omega)
        have dn' : decide (0 < s1.1.length) = true := decide_eq_true (List.length_pos_iff.2 hn)
        replace hn := Lib.hid hn
        clear P0
        go_upto_region 6 with (fail)
        have bR' : we.heap[w.heap.size]? = some (Obj.cells zEvtR.cells.toArray 45) := bR
        with_reducible refine wp_region_lit ?_
        with_reducible refine wpList_build_eq rfl 45 _ rfl zEvtR.cells.toArray (by kernel_rfl) ?_
        go_frame
        with_reducible refine wpList_store_row rfl 45 (.tmp 2) (.tmp 30) rfl w.heap.size zEvtR.cells.toArray (by kernel_rfl) (by kernel_rfl) 45 zEvtR.cells.toArray bR' (by kernel_rfl) (by kernel_rfl) (by kernel_rfl) ?_
        have bT : (we.setRow w.heap.size zEvtR.cells.toArray).heap[w.heap.size]? = some (Obj.cells zEvtR.cells.toArray 45) := bR.setRow_ _
        have BT := below_setRow Bd (Nat.le_refl w.heap.size) zEvtR.cells.toArray
        simp only [Act.put]
        repeat go_step
        (try simp only [Exit.inBlock, Exit.then])
        refine bodyPost_ret (results_row_tmp rfl _ _ w.heap.size 45 zEvtR.cells.toArray (0, 0) _ (by kernel_rfl) bT Tryz.underlying45 (by kernel_rfl) (by kernel_rfl) (.int .i64 2) (by kernel_rfl)) rfl ?_
        exact RetPar.no P2.out BT
    · rw [hb] at c1
      have P2 := P0.out
      rw [if_pos (.inl hb)] at P2
      replace P2 := Lib.hid P2
      clear P0
      go_upto_region 6 with (fail)
      have bR' : we.heap[w.heap.size]? = some (Obj.cells zEvtR.cells.toArray 45) := bR
      with_reducible refine wp_region_lit ?_
      with_reducible refine wpList_build_eq rfl 45 _ rfl zEvtR.cells.toArray (by kernel_rfl) ?_
      go_frame
      with_reducible refine wpList_store_row rfl 45 (.tmp 2) (.tmp 30) rfl w.heap.size zEvtR.cells.toArray (by kernel_rfl) (by kernel_rfl) 45 zEvtR.cells.toArray bR' (by kernel_rfl) (by kernel_rfl) (by kernel_rfl) ?_
      have bT : (we.setRow w.heap.size zEvtR.cells.toArray).heap[w.heap.size]? = some (Obj.cells zEvtR.cells.toArray 45) := bR.setRow_ _
      have BT := below_setRow Bd (Nat.le_refl w.heap.size) zEvtR.cells.toArray
      simp only [Act.put]
      repeat go_step
      (try simp only [Exit.inBlock, Exit.then])
      refine bodyPost_ret (results_row_tmp rfl _ _ w.heap.size 45 zEvtR.cells.toArray (0, 0) _ (by kernel_rfl) bT Tryz.underlying45 (by kernel_rfl) (by kernel_rfl) (.int .i64 2) (by kernel_rfl)) rfl ?_
      exact RetPar.no P2.out BT
end Go.Proofs.YtiokbebodblhaaaGreatDoor
