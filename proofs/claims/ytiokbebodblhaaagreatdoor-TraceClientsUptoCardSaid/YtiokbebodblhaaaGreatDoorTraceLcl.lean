/-
  The statement TraceClients walked: a client's events and the asks' answers are what the document says.
-/
import Derived.Test.YtiokbebodblhaaaGreatDoorTSmf
import Derived.Test.YtiokbebodblhaaaGreatDoorTAl
import Derived.Test.YtiokbebodblhaaaGreatDoorTraceVa
import Derived.Test.YtiokbebodblhaaaGreatDoorTraceAv
import Derived.Test.YtiokbebodblhaaaGreatDoorTraceAy
namespace Go.Proofs.YtiokbebodblhaaaGreatDoor
open Go.RowKit TraceP
attribute [local go_sem] Row.val

theorem keptG_below {w w' : World} {gb B : Nat} (K : Kept (fun k => k = gb ∨ w.heap.size ≤ k) w w') (hB : B ≤ gb) (hg : gb < w.heap.size) : Below B w w' :=
  ⟨K.os, K.tape, K.output, K.size, fun k hk => K.block k (by omega) (fun q => by rcases q with q | q <;> omega)⟩
/-- A number of a row, as any world that grew reads it. -/
theorem int_at {B : Nat} {w : World} {A : Option Addr} {c : Nat} {l : List Int} (h : Ints B w (.slice A l.length c) l) {k : Nat} (hk : k < l.length) : ∃ b off, A = some ⟨b, off, none⟩ ∧ b < w.heap.size ∧ ∀ w', Below w.heap.size w w' → w'.cell? ⟨b, off + k, none⟩ = some (.int .i64 l[k]) := by
  have hfl : k < (fl iC l).length := by rw [fl_iC, List.length_map]; exact hk
  obtain ⟨b, off, e, hb, hc⟩ := (RV.of_own h).at_ hfl
  have hce : (fl iC l)[k] = .int .i64 l[k] := by
    have : (fl iC l)[k]? = some (.int .i64 l[k]) := by rw [fl_iC, List.getElem?_map, List.getElem?_eq_getElem hk]; rfl
    rw [List.getElem?_eq_getElem hfl] at this
    injection this
  rw [hce] at hc
  exact ⟨b, off, e, hb, fun w' d => (d.cell (p := ⟨b, off + k, none⟩) hb).trans hc⟩
theorem pair_at {B : Nat} {w : World} {A : Option Addr} {c : Nat} {l : List (Int × Int)} (h : Prs B w (.slice A l.length c) l) {k : Nat} (hk : k < l.length) : ∃ b off, A = some ⟨b, off, none⟩ ∧ b < w.heap.size ∧ w.rangeAt b (off + k * 2) (pC l[k]) := by
  have rv := (RVF.of_own (F := fun _ => False) h (fun _ q => q.elim)).rv
  obtain ⟨b, off, e, hb, h2⟩ := fl_elem pC_len (by decide) rv hk
  exact ⟨b, off, e, hb, fun j v hv => by have := h2 j v hv; rwa [← Nat.add_assoc] at this⟩
theorem load_mid2 {w1 w2 : World} {b off : Nat} {p : Int × Int} (h : w1.rangeAt b off (pC p)) (hb : b < w1.heap.size) (d : Below w1.heap.size w1 w2) : Hid (∀ r, (Instr.loadAt 72 (.pointer (some ⟨b, off, none⟩))).run Tryz.prog (grow w2 r) = .ok (.agg #[.int .i64 p.1, .int .i64 p.2]) (grow w2 r)) :=
  Lib.hid fun r => run_loadAt_mid (grow w2 r) b off 72 (pC p) _ (fun j v hv => ((d.trans ((grow_below w2 r).mono d.size)).cell hb).trans (h j v hv)) Tryz.underlying72 (by kernel_rfl) (by kernel_rfl)
theorem eq_pair (a b : Int) (w : World) : (Op.equalIn 10000 72 (.agg #[.int .i64 a, .int .i64 b]) (.agg #[.int .i64 a, .int .i64 b])).run Tryz.prog w = .ok true w := by
  have u3 := Tryz.underlying3
  have a3 := Tryz.isAgg3
  have z3 := Tryz.sizeOf3
  rw [show (10000 : Nat) = 9999 + 1 from rfl, Op.equalIn]
  simp only [Sem.run_bind, run_underlying Tryz.underlying72, Result.andThen_ok]
  simp only [Std.Legacy.Range.forIn_eq_forIn_range', Std.Legacy.Range.size, Nat.sub_zero, Nat.add_sub_cancel, Nat.div_one, List.range'_succ, List.range'_zero, List.forIn_cons, List.forIn_nil]
  go_simp
attribute [local go_sem] eq_pair
theorem wpQuiet_neqP {ops : Array Oper} {C : World → Prop} {Q : Act → Prop} {a : Act} {o : Oper} {rest : List Oper} (hw : Region.wanted o (yielded ops a.tmps) = true) (x y : Operand) (ho : o.op = .binOp .neq 72 x y 72) (p : Int × Int) (hx : a.eval x = .agg #[.int .i64 p.1, .int .i64 p.2]) (hy : a.eval y = .agg #[.int .i64 p.1, .int .i64 p.2])
    (h : wpQuiet Tryz.prog ops C Q rest (a.put o.dst (.bool false))) : wpQuiet Tryz.prog ops C Q (o :: rest) a :=
  BigFrame.wpQuiet_want hw fun K hK => ⟨.bool false, fun w _ => by
    unfold Oper.quietAt
    have e : (execOp a.eval o).run Tryz.prog w = .ok (.value (.bool false)) w := by
      unfold execOp
      simp only [ho, hx, hy]
      go_simp
    rw [e]
    exact ⟨rfl, rfl⟩, hK _ h⟩
set_option maxRecDepth 100000 in
set_option maxHeartbeats 6400000 in
theorem traceClients_walk (W : World) (hT : Std W) (A : Option Addr) (c : Nat) (l : List EvtR) (h : RV W A (fl EvtR.cells l) ∧ l.length ≤ c ∧ c ≤ 9223372036854775807 ∧ l.length ≤ 1048576 ∧ ∀ e ∈ l, EvtOK W e ∧ BigE e.abs) (nd wh : Int) (_hnd : I64 nd) (_hwh : I64 wh) :
    Calls Tryz.prog 10 #[.slice A l.length c, .int .i64 nd, .int .i64 wh] W fun e w' => e = .returned (.bool true) ∧ Below W.heap.size W w' := by
  have r0 : EvsOK W A l c := ⟨h.1, h.2.1, h.2.2.1, fun e he => (h.2.2.2.2 e he).1⟩
  have g0 := Lib.hid fun e he => (h.2.2.2.2 e he).2
  clear h
  have AL := alive_calls W hT
  go_enter Tryz.func10, Tryz.ntmps10
  go_upto_region 3 with (go_at_call 11; refine AL.mono ?_; rintro _ w1 ⟨rfl, B1⟩; clear AL)
  have SC := small_calls w1 A c l (r0.below B1) g0.out 40 (by omega)
  with_reducible refine wp_region_lit ?_
  with_reducible refine wpList_cutAt 2 ?_
  simp only [List.take_succ_cons, List.take_zero, List.drop_succ_cons, List.drop_zero]
  go_wp2_with (go_at_call 12; refine SC.mono ?_; rintro _ w2 ⟨q, rfl, hs, d2⟩; clear SC)
  with_reducible refine CutQ.go_ ?_
  have B2 := B1.trans (d2.mono B1.size)
  clear B1 d2
  cases q
  · go_wp2_with fail
    go_ret
    exact ⟨rfl, B2⟩
  have lm : l.length ≤ 40 := (hs rfl).1
  clear hs g0
  have DC := dof_calls w2 A c l (r0.below B2) (by omega) nd wh
  have hIl : (ofL nd wh 0 (absL l)).length ≤ 40 := by
    have := ofL_split nd wh (absL l) 0 (Nat.zero_le _)
    rw [absL_len] at this
    omega
  obtain ⟨I, hI⟩ : ∃ x, x = ofL nd wh 0 (absL l) := ⟨_, rfl⟩
  rw [← hI] at DC hIl
  replace hI := Lib.hid hI
  go_upto_region 6 with (go_at_call 25; refine DC.mono ?_; rintro _ w3 ⟨v7, rfl, own7, d3⟩; clear DC)
  obtain ⟨A7, c7, hv7, hn7, hm7⟩ := own_form own7
  subst hv7
  have B3 := B2.trans (d3.mono B2.size)
  have hs3 := d3.size
  clear d3
  have bG := Blk.new w3 64 #[.slice none 0 0]
  have dG := below_new w3 (.cells #[.slice none 0 0] 64)
  have hsz4 : (w3.alloc (.cells #[.slice none 0 0] 64)).heap.size = w3.heap.size + 1 := by simp
  go_upto_region 7 with fail
  revert bG dG hsz4
  generalize w3.alloc (.cells #[.slice none 0 0] 64) = w4
  intro bG dG hsz4
  have own74 := own_below own7 dG (fun k hk => (own7.lt k hk).2)
  have hl7 : ∀ k, (Value.slice A7 I.length c7).ownBlock = some k → k < w3.heap.size := fun k hk => (own7.lt k hk).2
  have B4 := B3.trans (dG.mono B3.size)
  have hB3 := B3.size
  clear own7 dG
  obtain ⟨gb, hgb⟩ : ∃ g, g = w3.heap.size := ⟨_, rfl⟩
  rw [← hgb] at bG hsz4 hl7 hB3 ⊢
  clear hgb hs3 B3 B2
  have PC := pof_calls w4 A c l (r0.below B4) (by omega) nd wh
  rw [← hI.out] at PC
  clear hI
  with_reducible refine wp_region_lit ?_
  with_reducible refine wpList_cutAt 4 ?_
  simp only [List.take_succ_cons, List.take_zero, List.drop_succ_cons, List.drop_zero]
  go_wp2_with (go_at_call 26; refine PC.mono ?_; rintro _ w5 ⟨v8, bx, rfl, bb, hbx, own8, d5⟩; clear PC)
  with_reducible refine CutQ.go_ ?_
  have bG5 := bG.below d5 bG.lt
  have own75 := own_below own74 d5 (fun k hk => (own74.lt k hk).2)
  have B5 := B4.trans (d5.mono B4.size)
  have hs5 := d5.size
  clear d5 own74 bG
  have VC := values_calls w5 bx gb w4.heap.size v8 I bb own8 ⟨_, bG5, Ints.nil _ _⟩ (by omega) (by omega) (fun k hk => by have := (own8.lt k hk).1; omega) (by omega)
  clear bb own8 bG5
  with_reducible refine wpList_cutAt 2 ?_
  simp only [List.take_succ_cons, List.take_zero, List.drop_succ_cons, List.drop_zero]
  go_wp2_with (go_at_call 112; refine VC.mono ?_; rintro _ w6 ⟨rfl, ⟨v9, bG6, own9⟩, K6⟩; clear VC)
  with_reducible refine CutQ.go_ (wpList_nil ?_)
  have B6 := B5.trans (keptG_below K6 (by omega) (by omega))
  have own76 := own_frame own75 (fun k hk => K6.block k (own75.lt k hk).2 (fun q => by have := hl7 k hk; rcases q with q | q <;> omega))
  obtain ⟨A9, c9, hv9, hn9, hm9⟩ := own_form own9
  subst hv9
  clear K6 B5 own75 hl7 B4
  have PA := pans_calls w6 A c l (r0.below B6) (by omega)
  obtain ⟨R, hR⟩ : ∃ x, x = ansR 0 (absL l) := ⟨_, rfl⟩
  rw [← hR] at PA
  go_upto_region 8 with fail
  with_reducible refine wp_region_lit ?_
  with_reducible refine wpList_cutAt 2 ?_
  simp only [List.take_succ_cons, List.take_zero, List.drop_succ_cons, List.drop_zero]
  go_wp2_with (go_at_call 28; refine PA.mono ?_; rintro _ w7 ⟨vp, rfl, ownp, d7⟩; clear PA)
  with_reducible refine CutQ.go_ ?_
  have B7 := B6.trans (d7.mono B6.size)
  have own77 := own_below own76 d7 (fun k hk => (own76.lt k hk).2)
  have own97 := own_below own9 d7 (fun k hk => (own9.lt k hk).2)
  have bG7 := bG6.below d7 bG6.lt
  obtain ⟨Ap, cp, hvp, hnp, hmp⟩ := own_form ownp
  subst hvp
  clear own76 own9 bG6 d7 B6
  have DA := dans_calls w7 A c l (r0.below B7) (by omega)
  rw [← hR] at DA
  clear hR
  with_reducible refine wpList_cutAt 2 ?_
  simp only [List.take_succ_cons, List.take_zero, List.drop_succ_cons, List.drop_zero]
  go_wp2_with (go_at_call 29; refine DA.mono ?_; rintro _ w8 ⟨vd, rfl, ownd, d8⟩; clear DA)
  with_reducible refine CutQ.go_ ?_
  have B8 := B7.trans (d8.mono B7.size)
  have own78 := own_below own77 d8 (fun k hk => (own77.lt k hk).2)
  have own98 := own_below own97 d8 (fun k hk => (own97.lt k hk).2)
  have bG8 := bG7.below d8 bG7.lt
  have ownp8 := own_below ownp d8 (fun k hk => (ownp.lt k hk).2)
  obtain ⟨Ad, cd, hvd, hnd, hmd⟩ := own_form ownd
  subst hvd
  clear own77 own97 bG7 ownp d8 B7 r0
  have c0 := bG8.at_ (i := 0) (v := .slice A9 I.length c9) rfl
  have e1 : ((I.length : Int) != (I.length : Int)) = false := by simp
  have e2 : ((R.length : Int) != (R.length : Int)) = false := by simp
  go_upto_region 11 with fail
  go_wp2_with fail
  have imax : I.length ≤ 9223372036854775807 := by omega
  go_loopw [46] (fun i wr => ∃ k : Nat, k ≤ I.length ∧ i = .int .i64 (k : Int) ∧ Below w8.heap.size w8 wr) (fun i _ => I.length - (intOf i).toNat)
  case atStart => exact ⟨0, by omega, rfl, Below.refl _ _⟩
  case round =>
  obtain ⟨k, hk, rfl, dr⟩ := hrel
  by_cases hlt : k < I.length
  case pos =>
    have dec : decide ((k : Int) < (I.length : Int)) = true := decide_eq_true (by omega)
    have dec' : decide (k < I.length) = true := decide_eq_true hlt
    obtain ⟨b7, o7, e7, hb7, h7⟩ := int_at own78 hlt
    obtain ⟨b9, o9, e9, hb9, h9⟩ := int_at own98 hlt
    subst e7 e9
    have t7 := h7 wr dr
    have t9 := h9 wr dr
    have tG := (bG8.below dr bG8.lt).at_ (i := 0) (v := .slice (some ⟨b9, o9, none⟩) I.length c9) rfl
    generalize I[k] = x at *
    have x0 : (x != x) = false := by simp
    have u7 := growc t7
    have u9 := growc t9
    have uG := growc tG
    clear h7 h9 hb7 hb9 t7 t9 tG own78 own98 bG8 c0
    go_upto_region 14 with fail
    with_reducible refine wp_region_grow (by kernel_rfl) (by kernel_rfl) ?_
    repeat (go_big_quiet_step (fail))
    refine wpQuiet_nil ?_
    rintro w' ⟨r, rfl⟩
    have dJ := dr.trans ((grow_below wr r).mono dr.size)
    clear u7 u9 uG
    go_wp2_with fail
    go_roundw
    case rel => exact ⟨k + 1, by omega, by go_num, dJ⟩
    case measure => simp [intOf]; omega
  obtain rfl : k = I.length := by omega
  have dec : decide ((I.length : Int) < (I.length : Int)) = false := decide_eq_false (by omega)
  clear own78 own98 bG8 c0
  have B9 := B8.trans (dr.mono B8.size)
  have ownp9 := own_below ownp8 dr (fun k hk => (ownp8.lt k hk).2)
  have ownd9 := own_below ownd dr (fun k hk => (ownd.lt k hk).2)
  clear ownp8 ownd B8 dr
  have rmax : R.length ≤ 9223372036854775807 := Nat.le_trans hnp hmp
  go_wp2_with fail
  go_loopw [61] (fun i wi => ∃ k : Nat, k ≤ R.length ∧ i = .int .i64 (k : Int) ∧ Below wr.heap.size wr wi) (fun i _ => R.length - (intOf i).toNat)
  case atStart => exact ⟨0, by omega, rfl, Below.refl _ _⟩
  case round =>
  obtain ⟨k, hk, rfl, di⟩ := hrel
  by_cases hlt : k < R.length
  case pos =>
    have dec : decide ((k : Int) < (R.length : Int)) = true := decide_eq_true (by omega)
    have dec' : decide (k < R.length) = true := decide_eq_true hlt
    obtain ⟨bp, op, ep, hbp, hp⟩ := pair_at ownp9 hlt
    obtain ⟨bd, od, ed, hbd, hd⟩ := pair_at ownd9 hlt
    subst ep ed
    have up := load_mid2 hp hbp di
    have ud := load_mid2 hd hbd di
    generalize R[k] = x at *
    clear hp hd hbp hbd ownp9 ownd9
    go_upto_region 20 with fail
    with_reducible refine wp_region_grow (by kernel_rfl) (by kernel_rfl) ?_
    go_big_quiet_step (fail)
    go_big_quiet_step (fail)
    go_big_quiet_step (fail)
    with_reducible refine wpQuiet_load (by kernel_rfl) 72 (.tmp 66) rfl (.pointer (some ⟨bp, op + k * 2, none⟩)) (by kernel_rfl) (.agg #[.int .i64 x.1, .int .i64 x.2]) (by rintro w' ⟨r, rfl⟩; exact up.out r) ?_
    go_frame
    go_big_quiet_step (fail)
    go_big_quiet_step (fail)
    go_big_quiet_step (fail)
    with_reducible refine wpQuiet_load (by kernel_rfl) 72 (.tmp 70) rfl (.pointer (some ⟨bd, od + k * 2, none⟩)) (by kernel_rfl) (.agg #[.int .i64 x.1, .int .i64 x.2]) (by rintro w' ⟨r, rfl⟩; exact ud.out r) ?_
    go_frame
    with_reducible refine wpQuiet_neqP (by kernel_rfl) (.tmp 67) (.tmp 71) rfl x (by kernel_rfl) (by kernel_rfl) ?_
    refine wpQuiet_nil ?_
    rintro w' ⟨r, rfl⟩
    have dJ := di.trans ((grow_below wr r).mono di.size)
    clear up ud
    go_wp2_with fail
    go_roundw
    case rel => exact ⟨k + 1, by omega, by go_num, dJ⟩
    case measure => simp [intOf]; omega
  obtain rfl : k = R.length := by omega
  have dec : decide ((R.length : Int) < (R.length : Int)) = false := decide_eq_false (by omega)
  go_wp2_with fail
  go_ret
  exact ⟨rfl, B9.trans (di.mono B9.size)⟩
end Go.Proofs.YtiokbebodblhaaaGreatDoor
