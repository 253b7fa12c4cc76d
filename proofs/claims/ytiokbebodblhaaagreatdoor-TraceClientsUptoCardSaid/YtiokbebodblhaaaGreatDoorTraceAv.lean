/-
  Walk: the document's Answers.
-/
import Derived.Test.YtiokbebodblhaaaGreatDoorTraceAd
namespace Go.Proofs.YtiokbebodblhaaaGreatDoor
open Go.RowKit TraceP
attribute [local go_sem] Row.val

theorem endsC (w1 r0 : World) {y : EvtR} {nd wh : Int} {b : Bool} (hb : endsB y.abs nd wh = b) :
    Calls Tryz.prog 59 #[.agg y.cells.toArray, .int .i64 nd, .int .i64 wh] (grow w1 r0) fun x w' => x = .returned (.bool b) ∧ ∃ r', w' = grow w1 r' :=
  calls_grow (hb ▸ ends_calls y (grow w1 r0) nd wh)
theorem load_mid57 {w1 : World} {b off : Nat} {e : EvtR} (h : w1.rangeAt b off e.cells) (hb : b < w1.heap.size) : Hid (∀ r, (Instr.loadAt 45 (.pointer (some ⟨b, off, none⟩))).run Tryz.prog (grow w1 r) = .ok (.agg e.cells.toArray) (grow w1 r)) :=
  Lib.hid fun r => run_loadAt_mid (grow w1 r) b off 45 e.cells _ (fun j v hv => ((grow_below w1 r).cell hb).trans (h j v hv)) Tryz.underlying45 (by kernel_rfl) (by kernel_rfl)
set_option maxRecDepth 100000 in
set_option maxHeartbeats 6400000 in
theorem dans_calls (w : World) (A : Option Addr) (c : Nat) (l : List EvtR) (hr : EvsOK w A l c) (lm : l.length ≤ 100000) :
    Calls Tryz.prog 29 #[.slice A l.length c] w fun r w' => ∃ v, r = .returned v ∧ Prs w.heap.size w' v (ansR 0 (absL l)) ∧ Below w.heap.size w w' := by
  have lmax : l.length ≤ 9223372036854775807 := Nat.le_trans hr.le hr.cap
  obtain ⟨res, hres⟩ : ∃ x, x = ansR 0 (absL l) := ⟨_, rfl⟩
  rw [← hres]
  go_enter Tryz.func29, Tryz.ntmps29
  go_wp2_with fail
  go_loopw [3, 10] (fun v i wr => ∃ (k : Nat) (out : List (Int × Int)), k ≤ l.length ∧ i = .int .i64 (k : Int) ∧ Hid (res = out ++ ansR k ((absL l).drop k)) ∧ Prs w.heap.size wr v out ∧ out.length ≤ k ∧ Below w.heap.size w wr) (fun _ i _ => l.length - (intOf i).toNat)
  case atStart => exact ⟨0, [], by omega, rfl, Lib.hid (by simpa using hres), Prs.nil _ _, Nat.le_refl _, Below.refl _ _⟩
  case round =>
  clear hres
  obtain ⟨k, out, hk, rfl, hR, own, hol, B⟩ := hrel
  obtain ⟨A1, c1, hv, hnc, hcm⟩ := own_form own
  subst hv
  by_cases hlt : k < l.length
  case neg =>
    obtain rfl : k = l.length := by omega
    have dec : decide ((l.length : Int) < (l.length : Int)) = false := decide_eq_false (by omega)
    have hR2 := hR.out
    rw [List.drop_eq_nil_of_le (by rw [absL_len]; exact Nat.le_refl _)] at hR2
    have hR3 : res = out := by rw [hR2]; simp [ansR]
    clear hR hR2
    replace hR3 := Lib.hid hR3
    go_wp2_with fail
    go_ret
    exact ⟨_, rfl, by rw [hR3.out]; exact own, B⟩
  have dec : decide ((k : Int) < (l.length : Int)) = true := decide_eq_true (by omega)
  have dec' : decide (k < l.length) = true := decide_eq_true hlt
  obtain ⟨b, off, rfl, hbs, hc⟩ := evt_at (hr.rv.below B) hlt
  have hd := absL_dropO hlt
  generalize l[k] = x at *
  have hR1 : res = out ++ (if x.kind = 6 then ((k : Int), findEnd x.node x.who (k + 1) ((absL l).drop (k + 1))) :: ansR (k + 1) ((absL l).drop (k + 1)) else ansR (k + 1) ((absL l).drop (k + 1))) := by rw [hR.out, hd, ansR]; rfl
  clear hd hR
  replace hR1 := Lib.hid hR1
  go_upto_region 4 with fail
  with_reducible refine wp_region_lit ?_
  with_reducible refine wpList_cutAt 2 ?_
  simp only [List.take_succ_cons, List.take_zero, List.drop_succ_cons, List.drop_zero]
  go_wp2_with fail
  with_reducible refine CutQ.go_ ?_
  with_reducible refine wpList_load_mid rfl 45 (.tmp 13) rfl b (off + k * 57) (by kernel_rfl) x.cells _ hc Tryz.underlying45 (by kernel_rfl) (by kernel_rfl) ?_
  go_frame
  with_reducible refine wpList_cutAt 2 ?_
  simp only [List.take_succ_cons, List.take_zero, List.drop_succ_cons, List.drop_zero]
  repeat (first | go_values | go_skip | go_guarded | go_step | go_upon)
  with_reducible refine CutQ.go_ ?_
  with_reducible refine wpList_abs (fun w' => Blk w' wr.heap.size 45 zEvtR.cells.toArray ∧ Below wr.heap.size wr w') ?_ ?_
  · exact ⟨Blk.new wr 45 zEvtR.cells.toArray, below_new wr (.cells zEvtR.cells.toArray 45)⟩
  rintro wA0 ⟨bE0, dE0⟩
  have bE' : wA0.heap[wr.heap.size]? = some (Obj.cells zEvtR.cells.toArray 45) := bE0
  with_reducible refine wpList_store_row rfl 45 (.tmp 5) (.tmp 14) rfl wr.heap.size x.cells.toArray (by kernel_rfl) (by kernel_rfl) 45 zEvtR.cells.toArray bE' (by kernel_rfl) (by kernel_rfl) (by kernel_rfl) (wpList_nil ?_)
  have bE := bE0.setRow_ x.cells.toArray
  have dE := below_setRow dE0 (Nat.le_refl _) x.cells.toArray
  revert bE dE
  generalize wA0.setRow wr.heap.size x.cells.toArray = wA
  clear bE' bE0 dE0 wA0
  intro bE dE
  simp only [Act.put]
  have BA := B.trans (dE.mono B.size)
  have ownA := own_below own dE (fun k hk => (own.lt k hk).2)
  have f0 : wA.cell? ⟨wr.heap.size, 0, none⟩ = some (.int .i64 x.kind) := bE.at_ rfl
  clear hc hbs dE B own
  obtain ⟨gE, hgE⟩ : ∃ g, g = wr.heap.size := ⟨_, rfl⟩
  rw [← hgE] at bE f0 ⊢
  clear hgE
  by_cases hk6 : x.kind = 6
  case neg =>
    have n6 : (x.kind != 6) = true := bne_iff_ne.2 hk6
    have hR2 := hR1.out
    rw [if_neg hk6] at hR2
    replace hR2 := Lib.hid hR2
    clear hR1 hk6
    go_wp2_with fail
    go_roundw
    case rel => exact ⟨k + 1, out, by omega, by go_num, hR2, ownA, by omega, BA⟩
    case measure => simp [intOf]; omega
  have n6 : (x.kind != 6) = false := by rw [hk6]; rfl
  have hR2 := hR1.out
  rw [if_pos hk6] at hR2
  clear hR1 hk6
  obtain ⟨fe, hfe⟩ : ∃ q, q = findEnd x.node x.who (k + 1) ((absL l).drop (k + 1)) := ⟨_, rfl⟩
  rw [← hfe] at hR2
  have hR3 : res = (out ++ [((k : Int), fe)]) ++ ansR (k + 1) ((absL l).drop (k + 1)) := by rw [hR2]; simp
  replace hR3 := Lib.hid hR3
  replace hfe := Lib.hid hfe
  clear hR2
  go_upto_block 2 with fail
  go_cut [6] from 20 to 41 (fun v wx => v = .int .i64 fe ∧ Below wA.heap.size wA wx)
  case first =>
    go_wp2_with fail
    go_loopw [6, 7] (fun v j wi => ∃ m : Nat, m ≤ l.length ∧ j = .int .i64 (m : Int) ∧ v = .int .i64 (-1) ∧ Hid (fe = findEnd x.node x.who m ((absL l).drop m)) ∧ Below wA.heap.size wA wi) (fun _ j _ => l.length - (intOf j).toNat)
    case atStart => exact ⟨k + 1, by omega, by go_num, rfl, hfe, Below.refl _ _⟩
    case round =>
    obtain ⟨m, hm, rfl, rfl, hF, dI⟩ := hrel
    have BI := BA.trans (dI.mono BA.size)
    by_cases hlm : m < l.length
    case neg =>
      obtain rfl : m = l.length := by omega
      have decm : decide ((l.length : Int) < (l.length : Int)) = false := decide_eq_false (by omega)
      have hF2 := hF.out
      rw [List.drop_eq_nil_of_le (by rw [absL_len]; exact Nat.le_refl _)] at hF2
      have hF3 : fe = -1 := hF2
      clear hF hF2
      replace hF3 := Lib.hid hF3
      go_wp2_with fail
      go_meet
      exact ⟨by rw [hF3.out], dI⟩
    have decm : decide ((m : Int) < (l.length : Int)) = true := decide_eq_true (by omega)
    have decm' : decide (m < l.length) = true := decide_eq_true hlm
    obtain ⟨b2, off2, hA2, hb2, hc2⟩ := evt_at (hr.rv.below BI) hlm
    cases hA2
    have hdm := absL_dropO hlm
    have hcell : ∀ wj, Below wA.heap.size wA wj → wj.cell? ⟨b, off + m * 57, none⟩ = some (.int .i64 l[m].kind) := fun wj dj => by
      obtain ⟨b3, off3, hA3, hb3, hc3⟩ := evt_at (hr.rv.below (BA.trans (dj.mono BA.size))) hlm
      cases hA3
      exact hc3 0 _ rfl
    generalize l[m] = y at *
    obtain ⟨bb, hbb⟩ : ∃ q, endsB y.abs x.node x.who = q := ⟨_, rfl⟩
    have hF1 : fe = if bb then if y.kind = 10 then (m : Int) else -1 else findEnd x.node x.who (m + 1) ((absL l).drop (m + 1)) := by
      rw [hF.out, hdm, findEnd, hbb]
      rfl
    clear hdm hF
    replace hF1 := Lib.hid hF1
    replace hcell := Lib.hid hcell
    have hl57 := load_mid57 hc2 hb2
    have bEi := bE.below dI bE.lt
    have f2 := bEi.at_ (i := 2) (v := .int .i64 x.node) rfl
    have f3 := bEi.at_ (i := 3) (v := .int .i64 x.who) rfl
    have g2 := growc f2
    have g3 := growc f3
    clear hc2 hb2 bEi f2 f3
    go_upto_region 10 with fail
    with_reducible refine wp_region_grow (by kernel_rfl) (by kernel_rfl) ?_
    go_big_quiet_step (fail)
    go_big_quiet_step (fail)
    go_big_quiet_step (fail)
    with_reducible refine wpQuiet_load (by kernel_rfl) 45 (.tmp 28) rfl (.pointer (some ⟨b, off + m * 57, none⟩)) (by kernel_rfl) (.agg y.cells.toArray) (by rintro w' ⟨r, rfl⟩; exact hl57.out r) ?_
    go_frame
    repeat (first | go_big_quiet_step (fail) | go_big_quiet_step (first | (go_at_call 59; exact endsC _ _ hbb)))
    refine wpQuiet_nil ?_
    rintro w' ⟨r, rfl⟩
    have dJ := dI.trans ((grow_below wr r).mono dI.size)
    clear g2 g3 hl57 dI BI hbb
    generalize grow wr r = wj at *
    have hk0 := hcell.out wj dJ
    clear hcell
    cases bb
    · have hF2 : fe = findEnd x.node x.who (m + 1) ((absL l).drop (m + 1)) := by rw [hF1.out]; rfl
      clear hF1
      replace hF2 := Lib.hid hF2
      go_wp2_with fail
      go_roundw
      case rel => exact ⟨m + 1, by omega, by go_num, rfl, hF2, dJ⟩
      case measure => simp [intOf]; omega
    · by_cases hk10 : y.kind = 10
      · have n10 : (y.kind == 10) = true := beq_iff_eq.2 hk10
        have hF2 : fe = (m : Int) := by rw [hF1.out, if_pos rfl, if_pos hk10]
        clear hF1 hk10
        replace hF2 := Lib.hid hF2
        go_wp2_with fail
        go_meet
        exact ⟨by rw [hF2.out], dJ⟩
      · have n10 : (y.kind == 10) = false := beq_eq_false_iff_ne.2 hk10
        have hF2 : fe = -1 := by rw [hF1.out, if_pos rfl, if_neg hk10]
        clear hF1 hk10
        replace hF2 := Lib.hid hF2
        go_wp2_with fail
        go_meet
        exact ⟨by rw [hF2.out], dJ⟩
  case rest =>
  obtain ⟨rfl, dC⟩ := hcut
  have BC := BA.trans (dC.mono BA.size)
  have ownC := own_below ownA dC (fun k hk => (ownA.lt k hk).2)
  clear ownA BA hfe bE f0 n6 dC
  go_upto_region 13 with fail
  have own1 := own_below ownC (below_new wc (.cells #[.int .i64 (k : Int), .int .i64 fe] 72)) (fun k hk => (ownC.lt k hk).2)
  have B1 := BC.trans ((below_new wc (.cells #[.int .i64 (k : Int), .int .i64 fe] 72)).mono BC.size)
  have rv1 : RV (wc.alloc (.cells #[.int .i64 (k : Int), .int .i64 fe] 72)) (some ⟨wc.heap.size, 0, none⟩) (pC ((k : Int), fe)) := RV.new wc (pC ((k : Int), fe)) 72 (0, 0)
  with_reducible refine wp_region_lit ?_
  with_reducible refine wpList_cutAt 5 ?_
  simp only [List.take_succ_cons, List.take_zero, List.drop_succ_cons, List.drop_zero]
  go_wp2_with fail
  with_reducible refine CutQ.go_ ?_
  with_reducible refine wpList_append_rv el_pair (by kernel_rfl) (.tmp 42) (.tmp 46) rfl w.heap.size (.slice A1 out.length c1) out.length (fl pC out) (by kernel_rfl) own1 (some ⟨wc.heap.size, 0, none⟩) 1 1 (pC ((k : Int), fe)) (by kernel_rfl) (by kernel_rfl) rv1 (pC_one _) ?f2 ?f3 ?f4 ?_
  case f2 => unfold maxLen; omega
  case f3 => omega
  case f4 => exact B1.size
  intro v6 w6 own6 gr6 _
  have B6 : Below w.heap.size w w6 := below_grownS B1 gr6 (fun k hk => (own1.lt k hk).1)
  have own7 : Prs w.heap.size w6 v6 (out ++ [((k : Int), fe)]) := by
    show w6.ownsRow _ _ _ _ (out ++ [((k : Int), fe)]).length (fl pC (out ++ [((k : Int), fe)]))
    rw [List.length_append, List.length_singleton, fl_append, fl_one]
    exact own6
  clear gr6 own6 own1 rv1 B1 ownC BC
  go_wp2_with fail
  go_roundw
  case rel => exact ⟨k + 1, out ++ [((k : Int), fe)], by omega, by go_num, hR3, own7, by rw [List.length_append, List.length_singleton]; omega, B6⟩
  case measure => simp [intOf]; omega
end Go.Proofs.YtiokbebodblhaaaGreatDoor
