/-
  Walks: what the document looks back at: an object's version, who waits, what flies, a node's greatest flight. Printed by refgen51.py.
-/
import Derived.Test.YtiokbebodblhaaaGreatDoorTSm
import Derived.Deep.Cut
namespace Go.Proofs.YtiokbebodblhaaaGreatDoor
open Go.RowKit TraceP
attribute [local go_sem] Row.val

set_option maxRecDepth 100000 in
set_option maxHeartbeats 3200000 in
theorem dver_calls (w : World) (A : Option Addr) (c : Nat) (l : List EvtR) (hr : EvsOK w A l c) (ob : Txt) :
    Calls Tryz.prog 108 #[.slice A l.length c, .string (bstr ob)] w fun r w' => r = .returned (.int .i64 ((verF (absL l) ob : Nat))) ∧ Below w.heap.size w w' := by
  have lmax : l.length ≤ 9223372036854775807 := Nat.le_trans hr.le hr.cap
  go_enter Tryz.func108, Tryz.ntmps108
  go_wp2_with fail
  go_loopw [10, 5] (fun i n wr => ∃ k : Nat, k ≤ l.length ∧ i = .int .i64 (k : Int) ∧ n = .int .i64 ((verF ((absL l).take k) ob : Nat)) ∧ Below w.heap.size w wr) (fun i _ _ => l.length - (intOf i).toNat)
  case atStart => exact ⟨0, by omega, rfl, rfl, Below.refl _ _⟩
  obtain ⟨k, hk, rfl, rfl, B⟩ := hrel
  by_cases hlt : k < l.length
  case neg =>
    obtain rfl : k = l.length := by omega
    have dec : decide ((l.length : Int) < (l.length : Int)) = false := decide_eq_false (by omega)
    rw [← absL_len l, List.take_length, absL_len l]
    go_wp2_with fail
    go_ret
    exact ⟨rfl, B⟩
  have dec : decide ((k : Int) < (l.length : Int)) = true := decide_eq_true (by omega)
  have dec' : decide (k < l.length) = true := decide_eq_true hlt
  obtain ⟨b, off, rfl, hbs, hc⟩ := evt_at (hr.rv.below B) hlt
  have ht := absL_take hlt
  generalize l[k] = x at *
  have hs : Hid (verF ((absL l).take (k + 1)) ob = verS ob (verF ((absL l).take k) ob) x.abs) := Lib.hid (by rw [ht]; exact foldl_snoc _ _ _ _)
  clear ht
  obtain ⟨v, hv⟩ : ∃ v, v = verF ((absL l).take k) ob := ⟨_, rfl⟩
  rw [← hv] at hs ⊢
  clear hv
  go_upto_region 4 with fail
  with_reducible refine wp_region_lit ?_
  with_reducible refine wpList_cutAt 1 ?_
  simp only [List.take_succ_cons, List.take_zero, List.drop_succ_cons, List.drop_zero]
  go_wp2_with fail
  with_reducible refine CutQ.go_ ?_
  with_reducible refine wpList_load_mid rfl 45 (.tmp 12) rfl b (off + k * 57) (by kernel_rfl) x.cells _ hc Tryz.underlying45 (by kernel_rfl) (by kernel_rfl) ?_
  go_frame
  with_reducible refine wpList_cutAt 1 ?_
  simp only [List.take_succ_cons, List.take_zero, List.drop_succ_cons, List.drop_zero]
  repeat (first | go_values | go_skip | go_guarded | go_step | go_upon)
  with_reducible refine CutQ.go_ ?_
  with_reducible refine wpList_abs (fun w' => Blk w' wr.heap.size 45 zEvtR.cells.toArray ∧ Below wr.heap.size wr w') ?_ ?_
  · exact ⟨Blk.new wr 45 zEvtR.cells.toArray, below_new wr (.cells zEvtR.cells.toArray 45)⟩
  rintro wA0 ⟨bE0, dE0⟩
  have bE' : wA0.heap[wr.heap.size]? = some (Obj.cells zEvtR.cells.toArray 45) := bE0
  with_reducible refine wpList_store_row rfl 45 (.tmp 7) (.tmp 13) rfl wr.heap.size x.cells.toArray (by kernel_rfl) (by kernel_rfl) 45 zEvtR.cells.toArray bE' (by kernel_rfl) (by kernel_rfl) (by kernel_rfl) (wpList_nil ?_)
  have bE := bE0.setRow_ x.cells.toArray
  have dE := below_setRow dE0 (Nat.le_refl _) x.cells.toArray
  revert bE dE
  generalize wA0.setRow wr.heap.size x.cells.toArray = wA
  clear bE' bE0 dE0 wA0
  intro bE dE
  simp only [Act.put]
  have B2 := B.trans (dE.mono B.size)
  clear hc hbs B dE hr
  obtain ⟨g, hg⟩ : ∃ g, g = wr.heap.size := ⟨_, rfl⟩
  rw [← hg] at bE ⊢
  clear hg
  have c0 := bE.at_ (i := 0) (v := .int .i64 x.kind) rfl
  have c2 := bE.at_ (i := 2) (v := .int .i64 x.node) rfl
  have c3 := bE.at_ (i := 3) (v := .int .i64 x.who) rfl
  have c4 := bE.at_ (i := 4) (v := .string (bstr x.object)) rfl
  have c19 := bE.at_ (i := 19) (v := .int .i64 x.met.len) rfl
  have c38 := bE.at_ (i := 38) (v := .int .i64 x.rep.status) rfl
  have f0 : x.abs.kind = x.kind := rfl
  have f2 : x.abs.node = x.node := rfl
  have f3 : x.abs.who = x.who := rfl
  have f4 : x.abs.object = x.object := rfl
  have f5 : x.abs.met.len = x.met.len := rfl
  have f6 : x.abs.rep.status = x.rep.status := rfl
  by_cases ho : x.object = ob
  · have ob1 : ((bstr x.object).toList != (bstr ob).toList) = false := by rw [ho, bne_self_eq_false]
    by_cases h1 : x.kind = 1
    · have hk := h1
      have q1 : (x.kind == 1) = true := by rw [hk]; rfl
      by_cases hm : x.met.len = -1
      · have m1 : (x.met.len == -1) = true := by rw [hm]; rfl
        have E : Hid (verF ((absL l).take (k + 1)) ob = 1) := Lib.hid (hs.out.trans (by unfold verS; simp [f0, f4, f5, ho, hk, hm]))
        clear hs f0 f2 f3 f4 f5 f6
        go_wp2_with fail
        go_roundw
        case rel => exact ⟨k + 1, by omega, by go_num, by rw [E.out] <;> rfl, B2⟩
        case measure => simp [intOf]; omega
      · have m1 : (x.met.len == -1) = false := beq_eq_false_iff_ne.2 hm
        have E : Hid (verF ((absL l).take (k + 1)) ob = 2) := Lib.hid (hs.out.trans (by unfold verS; simp [f0, f4, f5, ho, hk, hm]))
        clear hs f0 f2 f3 f4 f5 f6
        go_wp2_with fail
        go_roundw
        case rel => exact ⟨k + 1, by omega, by go_num, by rw [E.out] <;> rfl, B2⟩
        case measure => simp [intOf]; omega
    by_cases h3 : x.kind = 3
    · have hk := h3
      have q1 : (x.kind == 1) = false := by rw [hk]; rfl
      have q3 : (x.kind == 3) = true := by rw [hk]; rfl
      have E : Hid (verF ((absL l).take (k + 1)) ob = 2) := Lib.hid (hs.out.trans (by unfold verS; simp [f0, f4, ho, hk]))
      clear hs f0 f2 f3 f4 f5 f6
      go_wp2_with fail
      go_roundw
      case rel => exact ⟨k + 1, by omega, by go_num, by rw [E.out] <;> rfl, B2⟩
      case measure => simp [intOf]; omega
    by_cases h4 : x.kind = 4
    · have hk := h4
      have q1 : (x.kind == 1) = false := by rw [hk]; rfl
      have q3 : (x.kind == 3) = false := by rw [hk]; rfl
      have q4 : (x.kind == 4) = true := by rw [hk]; rfl
      have E : Hid (verF ((absL l).take (k + 1)) ob = 0) := Lib.hid (hs.out.trans (by unfold verS; simp [f0, f4, ho, hk]))
      clear hs f0 f2 f3 f4 f5 f6
      go_wp2_with fail
      go_roundw
      case rel => exact ⟨k + 1, by omega, by go_num, by rw [E.out] <;> rfl, B2⟩
      case measure => simp [intOf]; omega
    have q1 : (x.kind == 1) = false := beq_eq_false_iff_ne.2 h1
    have q3 : (x.kind == 3) = false := beq_eq_false_iff_ne.2 h3
    have q4 : (x.kind == 4) = false := beq_eq_false_iff_ne.2 h4
    have E : Hid (verF ((absL l).take (k + 1)) ob = v) := Lib.hid (hs.out.trans (by unfold verS; simp [f0, f4, ho, h1, h3, h4]))
    clear hs f0 f2 f3 f4 f5 f6
    go_wp2_with fail
    go_roundw
    case rel => exact ⟨k + 1, by omega, by go_num, by rw [E.out] <;> rfl, B2⟩
    case measure => simp [intOf]; omega
  · have ob0 : ((bstr x.object).toList == (bstr ob).toList) = false := beq_eq_false_iff_ne.2 (fun q => ho (by rwa [bstr_list, bstr_list] at q))
    have ob1 : ((bstr x.object).toList != (bstr ob).toList) = true := by rw [bne, ob0]; rfl
    have ob2 : ((bstr x.object).toList = (bstr ob).toList) = False := eq_false (fun q => ho (by rwa [bstr_list, bstr_list] at q))
    have ob3 : (x.object = ob) = False := eq_false ho
    have E : Hid (verF ((absL l).take (k + 1)) ob = v) := Lib.hid (hs.out.trans (by unfold verS; simp [f4, ho]))
    clear hs f0 f2 f3 f4 f5 f6
    go_wp2_with fail
    go_roundw
    case rel => exact ⟨k + 1, by omega, by go_num, by rw [E.out] <;> rfl, B2⟩
    case measure => simp [intOf]; omega
set_option maxRecDepth 100000 in
set_option maxHeartbeats 3200000 in
theorem dwait_calls (w : World) (A : Option Addr) (c : Nat) (l : List EvtR) (hr : EvsOK w A l c) (nd wh : Int) :
    Calls Tryz.prog 106 #[.slice A l.length c, .int .i64 nd, .int .i64 wh] w fun r w' => r = .returned (.int .i64 ((waitF (absL l) nd wh : Nat))) ∧ Below w.heap.size w w' := by
  have lmax : l.length ≤ 9223372036854775807 := Nat.le_trans hr.le hr.cap
  go_enter Tryz.func106, Tryz.ntmps106
  go_wp2_with fail
  go_loopw [12, 7] (fun i n wr => ∃ k : Nat, k ≤ l.length ∧ i = .int .i64 (k : Int) ∧ n = .int .i64 ((waitF ((absL l).take k) nd wh : Nat)) ∧ Below w.heap.size w wr) (fun i _ _ => l.length - (intOf i).toNat)
  case atStart => exact ⟨0, by omega, rfl, rfl, Below.refl _ _⟩
  obtain ⟨k, hk, rfl, rfl, B⟩ := hrel
  by_cases hlt : k < l.length
  case neg =>
    obtain rfl : k = l.length := by omega
    have dec : decide ((l.length : Int) < (l.length : Int)) = false := decide_eq_false (by omega)
    rw [← absL_len l, List.take_length, absL_len l]
    go_wp2_with fail
    go_ret
    exact ⟨rfl, B⟩
  have dec : decide ((k : Int) < (l.length : Int)) = true := decide_eq_true (by omega)
  have dec' : decide (k < l.length) = true := decide_eq_true hlt
  obtain ⟨b, off, rfl, hbs, hc⟩ := evt_at (hr.rv.below B) hlt
  have ht := absL_take hlt
  generalize l[k] = x at *
  have hs : Hid (waitF ((absL l).take (k + 1)) nd wh = waitS nd wh (waitF ((absL l).take k) nd wh) x.abs) := Lib.hid (by rw [ht]; exact foldl_snoc _ _ _ _)
  clear ht
  obtain ⟨v, hv⟩ : ∃ v, v = waitF ((absL l).take k) nd wh := ⟨_, rfl⟩
  rw [← hv] at hs ⊢
  clear hv
  go_upto_region 4 with fail
  with_reducible refine wp_region_lit ?_
  with_reducible refine wpList_cutAt 1 ?_
  simp only [List.take_succ_cons, List.take_zero, List.drop_succ_cons, List.drop_zero]
  go_wp2_with fail
  with_reducible refine CutQ.go_ ?_
  with_reducible refine wpList_load_mid rfl 45 (.tmp 14) rfl b (off + k * 57) (by kernel_rfl) x.cells _ hc Tryz.underlying45 (by kernel_rfl) (by kernel_rfl) ?_
  go_frame
  with_reducible refine wpList_cutAt 1 ?_
  simp only [List.take_succ_cons, List.take_zero, List.drop_succ_cons, List.drop_zero]
  repeat (first | go_values | go_skip | go_guarded | go_step | go_upon)
  with_reducible refine CutQ.go_ ?_
  with_reducible refine wpList_abs (fun w' => Blk w' wr.heap.size 45 zEvtR.cells.toArray ∧ Below wr.heap.size wr w') ?_ ?_
  · exact ⟨Blk.new wr 45 zEvtR.cells.toArray, below_new wr (.cells zEvtR.cells.toArray 45)⟩
  rintro wA0 ⟨bE0, dE0⟩
  have bE' : wA0.heap[wr.heap.size]? = some (Obj.cells zEvtR.cells.toArray 45) := bE0
  with_reducible refine wpList_store_row rfl 45 (.tmp 9) (.tmp 15) rfl wr.heap.size x.cells.toArray (by kernel_rfl) (by kernel_rfl) 45 zEvtR.cells.toArray bE' (by kernel_rfl) (by kernel_rfl) (by kernel_rfl) (wpList_nil ?_)
  have bE := bE0.setRow_ x.cells.toArray
  have dE := below_setRow dE0 (Nat.le_refl _) x.cells.toArray
  revert bE dE
  generalize wA0.setRow wr.heap.size x.cells.toArray = wA
  clear bE' bE0 dE0 wA0
  intro bE dE
  simp only [Act.put]
  have B2 := B.trans (dE.mono B.size)
  clear hc hbs B dE hr
  obtain ⟨g, hg⟩ : ∃ g, g = wr.heap.size := ⟨_, rfl⟩
  rw [← hg] at bE ⊢
  clear hg
  have c0 := bE.at_ (i := 0) (v := .int .i64 x.kind) rfl
  have c2 := bE.at_ (i := 2) (v := .int .i64 x.node) rfl
  have c3 := bE.at_ (i := 3) (v := .int .i64 x.who) rfl
  have c4 := bE.at_ (i := 4) (v := .string (bstr x.object)) rfl
  have c19 := bE.at_ (i := 19) (v := .int .i64 x.met.len) rfl
  have c38 := bE.at_ (i := 38) (v := .int .i64 x.rep.status) rfl
  have f0 : x.abs.kind = x.kind := rfl
  have f2 : x.abs.node = x.node := rfl
  have f3 : x.abs.who = x.who := rfl
  have f4 : x.abs.object = x.object := rfl
  have f5 : x.abs.met.len = x.met.len := rfl
  have f6 : x.abs.rep.status = x.rep.status := rfl
  by_cases hn : x.node = nd
  · have n1 : (x.node != nd) = false := by rw [hn, bne_self_eq_false]
    by_cases hw : x.who = wh
    · have w1 : (x.who != wh) = false := by rw [hw, bne_self_eq_false]
      by_cases h6 : x.kind = 6
      · have hk := h6
        have q6 : (x.kind == 6) = true := by rw [hk]; rfl
        have E : Hid (waitF ((absL l).take (k + 1)) nd wh = 1) := Lib.hid (hs.out.trans (by unfold waitS; simp [f0, f2, f3, hn, hw, hk]))
        clear hs f0 f2 f3 f4 f5 f6
        go_wp2_with fail
        go_roundw
        case rel => exact ⟨k + 1, by omega, by go_num, by rw [E.out] <;> rfl, B2⟩
        case measure => simp [intOf]; omega
      by_cases h7 : x.kind = 7
      · have hk := h7
        have q6 : (x.kind == 6) = false := by rw [hk]; rfl
        have q7 : (x.kind == 7) = true := by rw [hk]; rfl
        have E : Hid (waitF ((absL l).take (k + 1)) nd wh = 0) := Lib.hid (hs.out.trans (by unfold waitS; simp [f0, f2, f3, hn, hw, hk]))
        clear hs f0 f2 f3 f4 f5 f6
        go_wp2_with fail
        go_roundw
        case rel => exact ⟨k + 1, by omega, by go_num, by rw [E.out] <;> rfl, B2⟩
        case measure => simp [intOf]; omega
      by_cases h10 : x.kind = 10
      · have hk := h10
        have q6 : (x.kind == 6) = false := by rw [hk]; rfl
        have q7 : (x.kind == 7) = false := by rw [hk]; rfl
        have q10 : (x.kind == 10) = true := by rw [hk]; rfl
        have E : Hid (waitF ((absL l).take (k + 1)) nd wh = 0) := Lib.hid (hs.out.trans (by unfold waitS; simp [f0, f2, f3, hn, hw, hk]))
        clear hs f0 f2 f3 f4 f5 f6
        go_wp2_with fail
        go_roundw
        case rel => exact ⟨k + 1, by omega, by go_num, by rw [E.out] <;> rfl, B2⟩
        case measure => simp [intOf]; omega
      by_cases h16 : x.kind = 16
      · have hk := h16
        have q6 : (x.kind == 6) = false := by rw [hk]; rfl
        have q7 : (x.kind == 7) = false := by rw [hk]; rfl
        have q10 : (x.kind == 10) = false := by rw [hk]; rfl
        have q16 : (x.kind == 16) = true := by rw [hk]; rfl
        have E : Hid (waitF ((absL l).take (k + 1)) nd wh = 0) := Lib.hid (hs.out.trans (by unfold waitS; simp [f0, f2, f3, hn, hw, hk]))
        clear hs f0 f2 f3 f4 f5 f6
        go_wp2_with fail
        go_roundw
        case rel => exact ⟨k + 1, by omega, by go_num, by rw [E.out] <;> rfl, B2⟩
        case measure => simp [intOf]; omega
      by_cases h8 : x.kind = 8
      · have hk := h8
        have q6 : (x.kind == 6) = false := by rw [hk]; rfl
        have q7 : (x.kind == 7) = false := by rw [hk]; rfl
        have q10 : (x.kind == 10) = false := by rw [hk]; rfl
        have q16 : (x.kind == 16) = false := by rw [hk]; rfl
        have q8 : (x.kind == 8) = true := by rw [hk]; rfl
        by_cases hv1 : v = 1
        · have dv : ((v : Int) == 1) = true := by rw [hv1]; rfl
          have E : Hid (waitF ((absL l).take (k + 1)) nd wh = 2) := Lib.hid (hs.out.trans (by unfold waitS; simp [f0, f2, f3, hn, hw, hk, hv1]))
          clear hs f0 f2 f3 f4 f5 f6
          go_wp2_with fail
          go_roundw
          case rel => exact ⟨k + 1, by omega, by go_num, by rw [E.out] <;> rfl, B2⟩
          case measure => simp [intOf]; omega
        · have dv : ((v : Int) == 1) = false := beq_eq_false_iff_ne.2 (by omega)
          have E : Hid (waitF ((absL l).take (k + 1)) nd wh = v) := Lib.hid (hs.out.trans (by unfold waitS; simp [f0, f2, f3, hn, hw, hk, hv1]))
          clear hs f0 f2 f3 f4 f5 f6
          go_wp2_with fail
          go_roundw
          case rel => exact ⟨k + 1, by omega, by go_num, by rw [E.out] <;> rfl, B2⟩
          case measure => simp [intOf]; omega
      have q6 : (x.kind == 6) = false := beq_eq_false_iff_ne.2 h6
      have q7 : (x.kind == 7) = false := beq_eq_false_iff_ne.2 h7
      have q10 : (x.kind == 10) = false := beq_eq_false_iff_ne.2 h10
      have q16 : (x.kind == 16) = false := beq_eq_false_iff_ne.2 h16
      have q8 : (x.kind == 8) = false := beq_eq_false_iff_ne.2 h8
      have E : Hid (waitF ((absL l).take (k + 1)) nd wh = v) := Lib.hid (hs.out.trans (by unfold waitS; simp [f0, f2, f3, hn, hw, h6, h7, h10, h16, h8]))
      clear hs f0 f2 f3 f4 f5 f6
      go_wp2_with fail
      go_roundw
      case rel => exact ⟨k + 1, by omega, by go_num, by rw [E.out] <;> rfl, B2⟩
      case measure => simp [intOf]; omega
    · have w1 : (x.who != wh) = true := bne_iff_ne.2 hw
      by_cases h16 : x.kind = 16
      · have hk := h16
        have u16 : (x.kind != 16) = false := by rw [hk]; rfl
        have q6 : (x.kind == 6) = false := by rw [hk]; rfl
        have q7 : (x.kind == 7) = false := by rw [hk]; rfl
        have q10 : (x.kind == 10) = false := by rw [hk]; rfl
        have q16 : (x.kind == 16) = true := by rw [hk]; rfl
        have E : Hid (waitF ((absL l).take (k + 1)) nd wh = 0) := Lib.hid (hs.out.trans (by unfold waitS; simp [f0, f2, f3, hn, hw, hk]))
        clear hs f0 f2 f3 f4 f5 f6
        go_wp2_with fail
        go_roundw
        case rel => exact ⟨k + 1, by omega, by go_num, by rw [E.out] <;> rfl, B2⟩
        case measure => simp [intOf]; omega
      · have u16 : (x.kind != 16) = true := bne_iff_ne.2 h16
        have E : Hid (waitF ((absL l).take (k + 1)) nd wh = v) := Lib.hid (hs.out.trans (by unfold waitS; simp [f0, f2, f3, hn, hw, h16]))
        clear hs f0 f2 f3 f4 f5 f6
        go_wp2_with fail
        go_roundw
        case rel => exact ⟨k + 1, by omega, by go_num, by rw [E.out] <;> rfl, B2⟩
        case measure => simp [intOf]; omega
  · have n1 : (x.node != nd) = true := bne_iff_ne.2 hn
    have E : Hid (waitF ((absL l).take (k + 1)) nd wh = v) := Lib.hid (hs.out.trans (by unfold waitS; simp [f0, f2, f3, hn]))
    clear hs f0 f2 f3 f4 f5 f6
    go_wp2_with fail
    go_roundw
    case rel => exact ⟨k + 1, by omega, by go_num, by rw [E.out] <;> rfl, B2⟩
    case measure => simp [intOf]; omega
set_option maxRecDepth 100000 in
set_option maxHeartbeats 3200000 in
theorem dfly_calls (w : World) (A : Option Addr) (c : Nat) (l : List EvtR) (hr : EvsOK w A l c) (nd wh : Int) :
    Calls Tryz.prog 107 #[.slice A l.length c, .int .i64 nd, .int .i64 wh] w fun r w' => r = .returned (.int .i64 ((flyF (absL l) nd wh : Nat))) ∧ Below w.heap.size w w' := by
  have lmax : l.length ≤ 9223372036854775807 := Nat.le_trans hr.le hr.cap
  go_enter Tryz.func107, Tryz.ntmps107
  go_wp2_with fail
  go_loopw [12, 7] (fun i n wr => ∃ k : Nat, k ≤ l.length ∧ i = .int .i64 (k : Int) ∧ n = .int .i64 ((flyF ((absL l).take k) nd wh : Nat)) ∧ Below w.heap.size w wr) (fun i _ _ => l.length - (intOf i).toNat)
  case atStart => exact ⟨0, by omega, rfl, rfl, Below.refl _ _⟩
  obtain ⟨k, hk, rfl, rfl, B⟩ := hrel
  by_cases hlt : k < l.length
  case neg =>
    obtain rfl : k = l.length := by omega
    have dec : decide ((l.length : Int) < (l.length : Int)) = false := decide_eq_false (by omega)
    rw [← absL_len l, List.take_length, absL_len l]
    go_wp2_with fail
    go_ret
    exact ⟨rfl, B⟩
  have dec : decide ((k : Int) < (l.length : Int)) = true := decide_eq_true (by omega)
  have dec' : decide (k < l.length) = true := decide_eq_true hlt
  obtain ⟨b, off, rfl, hbs, hc⟩ := evt_at (hr.rv.below B) hlt
  have ht := absL_take hlt
  generalize l[k] = x at *
  have hs : Hid (flyF ((absL l).take (k + 1)) nd wh = flyS nd wh (flyF ((absL l).take k) nd wh) x.abs) := Lib.hid (by rw [ht]; exact foldl_snoc _ _ _ _)
  clear ht
  obtain ⟨v, hv⟩ : ∃ v, v = flyF ((absL l).take k) nd wh := ⟨_, rfl⟩
  rw [← hv] at hs ⊢
  clear hv
  go_upto_region 4 with fail
  with_reducible refine wp_region_lit ?_
  with_reducible refine wpList_cutAt 1 ?_
  simp only [List.take_succ_cons, List.take_zero, List.drop_succ_cons, List.drop_zero]
  go_wp2_with fail
  with_reducible refine CutQ.go_ ?_
  with_reducible refine wpList_load_mid rfl 45 (.tmp 14) rfl b (off + k * 57) (by kernel_rfl) x.cells _ hc Tryz.underlying45 (by kernel_rfl) (by kernel_rfl) ?_
  go_frame
  with_reducible refine wpList_cutAt 1 ?_
  simp only [List.take_succ_cons, List.take_zero, List.drop_succ_cons, List.drop_zero]
  repeat (first | go_values | go_skip | go_guarded | go_step | go_upon)
  with_reducible refine CutQ.go_ ?_
  with_reducible refine wpList_abs (fun w' => Blk w' wr.heap.size 45 zEvtR.cells.toArray ∧ Below wr.heap.size wr w') ?_ ?_
  · exact ⟨Blk.new wr 45 zEvtR.cells.toArray, below_new wr (.cells zEvtR.cells.toArray 45)⟩
  rintro wA0 ⟨bE0, dE0⟩
  have bE' : wA0.heap[wr.heap.size]? = some (Obj.cells zEvtR.cells.toArray 45) := bE0
  with_reducible refine wpList_store_row rfl 45 (.tmp 9) (.tmp 15) rfl wr.heap.size x.cells.toArray (by kernel_rfl) (by kernel_rfl) 45 zEvtR.cells.toArray bE' (by kernel_rfl) (by kernel_rfl) (by kernel_rfl) (wpList_nil ?_)
  have bE := bE0.setRow_ x.cells.toArray
  have dE := below_setRow dE0 (Nat.le_refl _) x.cells.toArray
  revert bE dE
  generalize wA0.setRow wr.heap.size x.cells.toArray = wA
  clear bE' bE0 dE0 wA0
  intro bE dE
  simp only [Act.put]
  have B2 := B.trans (dE.mono B.size)
  clear hc hbs B dE hr
  obtain ⟨g, hg⟩ : ∃ g, g = wr.heap.size := ⟨_, rfl⟩
  rw [← hg] at bE ⊢
  clear hg
  have c0 := bE.at_ (i := 0) (v := .int .i64 x.kind) rfl
  have c2 := bE.at_ (i := 2) (v := .int .i64 x.node) rfl
  have c3 := bE.at_ (i := 3) (v := .int .i64 x.who) rfl
  have c4 := bE.at_ (i := 4) (v := .string (bstr x.object)) rfl
  have c19 := bE.at_ (i := 19) (v := .int .i64 x.met.len) rfl
  have c38 := bE.at_ (i := 38) (v := .int .i64 x.rep.status) rfl
  have f0 : x.abs.kind = x.kind := rfl
  have f2 : x.abs.node = x.node := rfl
  have f3 : x.abs.who = x.who := rfl
  have f4 : x.abs.object = x.object := rfl
  have f5 : x.abs.met.len = x.met.len := rfl
  have f6 : x.abs.rep.status = x.rep.status := rfl
  by_cases hn : x.node = nd
  · have n1 : (x.node != nd) = false := by rw [hn, bne_self_eq_false]
    by_cases hw : x.who = wh
    · have w1 : (x.who != wh) = false := by rw [hw, bne_self_eq_false]
      by_cases h11 : x.kind = 11
      · have hk := h11
        have q11 : (x.kind == 11) = true := by rw [hk]; rfl
        have E : Hid (flyF ((absL l).take (k + 1)) nd wh = 1) := Lib.hid (hs.out.trans (by unfold flyS; simp [f0, f2, f3, hn, hw, hk]))
        clear hs f0 f2 f3 f4 f5 f6
        go_wp2_with fail
        go_roundw
        case rel => exact ⟨k + 1, by omega, by go_num, by rw [E.out] <;> rfl, B2⟩
        case measure => simp [intOf]; omega
      by_cases h12 : x.kind = 12
      · have hk := h12
        have q11 : (x.kind == 11) = false := by rw [hk]; rfl
        have q12 : (x.kind == 12) = true := by rw [hk]; rfl
        by_cases hv1 : v = 1
        · have dv : ((v : Int) == 1) = true := by rw [hv1]; rfl
          by_cases s2 : x.rep.status = 200
          · have s3 : (x.rep.status == 200) = true := by rw [s2]; rfl
            have E : Hid (flyF ((absL l).take (k + 1)) nd wh = 2) := Lib.hid (hs.out.trans (by unfold flyS; simp [f0, f2, f3, f6, hn, hw, hk, hv1, s2]))
            clear hs f0 f2 f3 f4 f5 f6
            go_wp2_with fail
            go_roundw
            case rel => exact ⟨k + 1, by omega, by go_num, by rw [E.out] <;> rfl, B2⟩
            case measure => simp [intOf]; omega
          · have s3 : (x.rep.status == 200) = false := beq_eq_false_iff_ne.2 s2
            by_cases s4 : x.rep.status = 206
            · have s5 : (x.rep.status == 206) = true := by rw [s4]; rfl
              have E : Hid (flyF ((absL l).take (k + 1)) nd wh = 2) := Lib.hid (hs.out.trans (by unfold flyS; simp [f0, f2, f3, f6, hn, hw, hk, hv1, s4]))
              clear hs f0 f2 f3 f4 f5 f6
              go_wp2_with fail
              go_roundw
              case rel => exact ⟨k + 1, by omega, by go_num, by rw [E.out] <;> rfl, B2⟩
              case measure => simp [intOf]; omega
            · have s5 : (x.rep.status == 206) = false := beq_eq_false_iff_ne.2 s4
              have E : Hid (flyF ((absL l).take (k + 1)) nd wh = 0) := Lib.hid (hs.out.trans (by unfold flyS; simp [f0, f2, f3, f6, hn, hw, hk, hv1, s2, s4]))
              clear hs f0 f2 f3 f4 f5 f6
              go_wp2_with fail
              go_roundw
              case rel => exact ⟨k + 1, by omega, by go_num, by rw [E.out] <;> rfl, B2⟩
              case measure => simp [intOf]; omega
        · have dv : ((v : Int) == 1) = false := beq_eq_false_iff_ne.2 (by omega)
          have E : Hid (flyF ((absL l).take (k + 1)) nd wh = 0) := Lib.hid (hs.out.trans (by unfold flyS; simp [f0, f2, f3, f6, hn, hw, hk, hv1]))
          clear hs f0 f2 f3 f4 f5 f6
          go_wp2_with fail
          go_roundw
          case rel => exact ⟨k + 1, by omega, by go_num, by rw [E.out] <;> rfl, B2⟩
          case measure => simp [intOf]; omega
      by_cases h14 : x.kind = 14
      · have hk := h14
        have q11 : (x.kind == 11) = false := by rw [hk]; rfl
        have q12 : (x.kind == 12) = false := by rw [hk]; rfl
        have q14 : (x.kind == 14) = true := by rw [hk]; rfl
        have E : Hid (flyF ((absL l).take (k + 1)) nd wh = 0) := Lib.hid (hs.out.trans (by unfold flyS; simp [f0, f2, f3, hn, hw, hk]))
        clear hs f0 f2 f3 f4 f5 f6
        go_wp2_with fail
        go_roundw
        case rel => exact ⟨k + 1, by omega, by go_num, by rw [E.out] <;> rfl, B2⟩
        case measure => simp [intOf]; omega
      by_cases h15 : x.kind = 15
      · have hk := h15
        have q11 : (x.kind == 11) = false := by rw [hk]; rfl
        have q12 : (x.kind == 12) = false := by rw [hk]; rfl
        have q14 : (x.kind == 14) = false := by rw [hk]; rfl
        have q15 : (x.kind == 15) = true := by rw [hk]; rfl
        have E : Hid (flyF ((absL l).take (k + 1)) nd wh = 0) := Lib.hid (hs.out.trans (by unfold flyS; simp [f0, f2, f3, hn, hw, hk]))
        clear hs f0 f2 f3 f4 f5 f6
        go_wp2_with fail
        go_roundw
        case rel => exact ⟨k + 1, by omega, by go_num, by rw [E.out] <;> rfl, B2⟩
        case measure => simp [intOf]; omega
      by_cases h16 : x.kind = 16
      · have hk := h16
        have q11 : (x.kind == 11) = false := by rw [hk]; rfl
        have q12 : (x.kind == 12) = false := by rw [hk]; rfl
        have q14 : (x.kind == 14) = false := by rw [hk]; rfl
        have q15 : (x.kind == 15) = false := by rw [hk]; rfl
        have q16 : (x.kind == 16) = true := by rw [hk]; rfl
        have E : Hid (flyF ((absL l).take (k + 1)) nd wh = 0) := Lib.hid (hs.out.trans (by unfold flyS; simp [f0, f2, f3, hn, hw, hk]))
        clear hs f0 f2 f3 f4 f5 f6
        go_wp2_with fail
        go_roundw
        case rel => exact ⟨k + 1, by omega, by go_num, by rw [E.out] <;> rfl, B2⟩
        case measure => simp [intOf]; omega
      have q11 : (x.kind == 11) = false := beq_eq_false_iff_ne.2 h11
      have q12 : (x.kind == 12) = false := beq_eq_false_iff_ne.2 h12
      have q14 : (x.kind == 14) = false := beq_eq_false_iff_ne.2 h14
      have q15 : (x.kind == 15) = false := beq_eq_false_iff_ne.2 h15
      have q16 : (x.kind == 16) = false := beq_eq_false_iff_ne.2 h16
      have E : Hid (flyF ((absL l).take (k + 1)) nd wh = v) := Lib.hid (hs.out.trans (by unfold flyS; simp [f0, f2, f3, hn, hw, h11, h12, h14, h15, h16]))
      clear hs f0 f2 f3 f4 f5 f6
      go_wp2_with fail
      go_roundw
      case rel => exact ⟨k + 1, by omega, by go_num, by rw [E.out] <;> rfl, B2⟩
      case measure => simp [intOf]; omega
    · have w1 : (x.who != wh) = true := bne_iff_ne.2 hw
      by_cases h16 : x.kind = 16
      · have hk := h16
        have u16 : (x.kind != 16) = false := by rw [hk]; rfl
        have q11 : (x.kind == 11) = false := by rw [hk]; rfl
        have q12 : (x.kind == 12) = false := by rw [hk]; rfl
        have q14 : (x.kind == 14) = false := by rw [hk]; rfl
        have q15 : (x.kind == 15) = false := by rw [hk]; rfl
        have q16 : (x.kind == 16) = true := by rw [hk]; rfl
        have E : Hid (flyF ((absL l).take (k + 1)) nd wh = 0) := Lib.hid (hs.out.trans (by unfold flyS; simp [f0, f2, f3, hn, hw, hk]))
        clear hs f0 f2 f3 f4 f5 f6
        go_wp2_with fail
        go_roundw
        case rel => exact ⟨k + 1, by omega, by go_num, by rw [E.out] <;> rfl, B2⟩
        case measure => simp [intOf]; omega
      · have u16 : (x.kind != 16) = true := bne_iff_ne.2 h16
        have E : Hid (flyF ((absL l).take (k + 1)) nd wh = v) := Lib.hid (hs.out.trans (by unfold flyS; simp [f0, f2, f3, hn, hw, h16]))
        clear hs f0 f2 f3 f4 f5 f6
        go_wp2_with fail
        go_roundw
        case rel => exact ⟨k + 1, by omega, by go_num, by rw [E.out] <;> rfl, B2⟩
        case measure => simp [intOf]; omega
  · have n1 : (x.node != nd) = true := bne_iff_ne.2 hn
    have E : Hid (flyF ((absL l).take (k + 1)) nd wh = v) := Lib.hid (hs.out.trans (by unfold flyS; simp [f0, f2, f3, hn]))
    clear hs f0 f2 f3 f4 f5 f6
    go_wp2_with fail
    go_roundw
    case rel => exact ⟨k + 1, by omega, by go_num, by rw [E.out] <;> rfl, B2⟩
    case measure => simp [intOf]; omega
set_option maxRecDepth 100000 in
set_option maxHeartbeats 3200000 in
theorem dgrt_calls (w : World) (A : Option Addr) (c : Nat) (l : List EvtR) (hr : EvsOK w A l c) (nd : Int) :
    Calls Tryz.prog 109 #[.slice A l.length c, .int .i64 nd] w fun r w' => r = .returned (.int .i64 (grtF (absL l) nd)) ∧ Below w.heap.size w w' := by
  have lmax : l.length ≤ 9223372036854775807 := Nat.le_trans hr.le hr.cap
  go_enter Tryz.func109, Tryz.ntmps109
  go_wp2_with fail
  go_loopw [10, 5] (fun i n wr => ∃ k : Nat, k ≤ l.length ∧ i = .int .i64 (k : Int) ∧ n = .int .i64 (grtF ((absL l).take k) nd) ∧ Below w.heap.size w wr) (fun i _ _ => l.length - (intOf i).toNat)
  case atStart => exact ⟨0, by omega, rfl, rfl, Below.refl _ _⟩
  obtain ⟨k, hk, rfl, rfl, B⟩ := hrel
  by_cases hlt : k < l.length
  case neg =>
    obtain rfl : k = l.length := by omega
    have dec : decide ((l.length : Int) < (l.length : Int)) = false := decide_eq_false (by omega)
    rw [← absL_len l, List.take_length, absL_len l]
    go_wp2_with fail
    go_ret
    exact ⟨rfl, B⟩
  have dec : decide ((k : Int) < (l.length : Int)) = true := decide_eq_true (by omega)
  have dec' : decide (k < l.length) = true := decide_eq_true hlt
  obtain ⟨b, off, rfl, hbs, hc⟩ := evt_at (hr.rv.below B) hlt
  have ht := absL_take hlt
  generalize l[k] = x at *
  have hs : Hid (grtF ((absL l).take (k + 1)) nd = grtS nd (grtF ((absL l).take k) nd) x.abs) := Lib.hid (by rw [ht]; exact foldl_snoc _ _ _ _)
  clear ht
  obtain ⟨v, hv⟩ : ∃ v, v = grtF ((absL l).take k) nd := ⟨_, rfl⟩
  rw [← hv] at hs ⊢
  clear hv
  go_upto_region 4 with fail
  with_reducible refine wp_region_lit ?_
  with_reducible refine wpList_cutAt 1 ?_
  simp only [List.take_succ_cons, List.take_zero, List.drop_succ_cons, List.drop_zero]
  go_wp2_with fail
  with_reducible refine CutQ.go_ ?_
  with_reducible refine wpList_load_mid rfl 45 (.tmp 12) rfl b (off + k * 57) (by kernel_rfl) x.cells _ hc Tryz.underlying45 (by kernel_rfl) (by kernel_rfl) ?_
  go_frame
  with_reducible refine wpList_cutAt 1 ?_
  simp only [List.take_succ_cons, List.take_zero, List.drop_succ_cons, List.drop_zero]
  repeat (first | go_values | go_skip | go_guarded | go_step | go_upon)
  with_reducible refine CutQ.go_ ?_
  with_reducible refine wpList_abs (fun w' => Blk w' wr.heap.size 45 zEvtR.cells.toArray ∧ Below wr.heap.size wr w') ?_ ?_
  · exact ⟨Blk.new wr 45 zEvtR.cells.toArray, below_new wr (.cells zEvtR.cells.toArray 45)⟩
  rintro wA0 ⟨bE0, dE0⟩
  have bE' : wA0.heap[wr.heap.size]? = some (Obj.cells zEvtR.cells.toArray 45) := bE0
  with_reducible refine wpList_store_row rfl 45 (.tmp 7) (.tmp 13) rfl wr.heap.size x.cells.toArray (by kernel_rfl) (by kernel_rfl) 45 zEvtR.cells.toArray bE' (by kernel_rfl) (by kernel_rfl) (by kernel_rfl) (wpList_nil ?_)
  have bE := bE0.setRow_ x.cells.toArray
  have dE := below_setRow dE0 (Nat.le_refl _) x.cells.toArray
  revert bE dE
  generalize wA0.setRow wr.heap.size x.cells.toArray = wA
  clear bE' bE0 dE0 wA0
  intro bE dE
  simp only [Act.put]
  have B2 := B.trans (dE.mono B.size)
  clear hc hbs B dE hr
  obtain ⟨g, hg⟩ : ∃ g, g = wr.heap.size := ⟨_, rfl⟩
  rw [← hg] at bE ⊢
  clear hg
  have c0 := bE.at_ (i := 0) (v := .int .i64 x.kind) rfl
  have c2 := bE.at_ (i := 2) (v := .int .i64 x.node) rfl
  have c3 := bE.at_ (i := 3) (v := .int .i64 x.who) rfl
  have c4 := bE.at_ (i := 4) (v := .string (bstr x.object)) rfl
  have c19 := bE.at_ (i := 19) (v := .int .i64 x.met.len) rfl
  have c38 := bE.at_ (i := 38) (v := .int .i64 x.rep.status) rfl
  have f0 : x.abs.kind = x.kind := rfl
  have f2 : x.abs.node = x.node := rfl
  have f3 : x.abs.who = x.who := rfl
  have f4 : x.abs.object = x.object := rfl
  have f5 : x.abs.met.len = x.met.len := rfl
  have f6 : x.abs.rep.status = x.rep.status := rfl
  by_cases hn : x.node = nd
  · have n1 : (x.node == nd) = true := by rw [hn]; exact beq_iff_eq.2 rfl
    by_cases h16 : x.kind = 16
    · have hk := h16
      have q16 : (x.kind == 16) = true := by rw [hk]; rfl
      have q11 : (x.kind == 11) = false := by rw [hk]; rfl
      have E : Hid (grtF ((absL l).take (k + 1)) nd = 0) := Lib.hid (hs.out.trans (by unfold grtS; simp [f0, f2, hn, hk]))
      clear hs f0 f2 f3 f4 f5 f6
      go_wp2_with fail
      go_roundw
      case rel => exact ⟨k + 1, by omega, by go_num, by rw [E.out] <;> rfl, B2⟩
      case measure => simp [intOf]; omega
    by_cases h11 : x.kind = 11
    · have hk := h11
      have q16 : (x.kind == 16) = false := by rw [hk]; rfl
      have q11 : (x.kind == 11) = true := by rw [hk]; rfl
      have E : Hid (grtF ((absL l).take (k + 1)) nd = max v x.who) := Lib.hid (hs.out.trans (by unfold grtS; simp [f0, f2, f3, hn, hk]))
      clear hs f0 f2 f3 f4 f5 f6
      go_wp2_with fail
      go_roundw
      case rel => exact ⟨k + 1, by omega, by go_num, by rw [E.out] <;> rfl, B2⟩
      case measure => simp [intOf]; omega
    have q16 : (x.kind == 16) = false := beq_eq_false_iff_ne.2 h16
    have q11 : (x.kind == 11) = false := beq_eq_false_iff_ne.2 h11
    have E : Hid (grtF ((absL l).take (k + 1)) nd = v) := Lib.hid (hs.out.trans (by unfold grtS; simp [f0, f2, hn, h16, h11]))
    clear hs f0 f2 f3 f4 f5 f6
    go_wp2_with fail
    go_roundw
    case rel => exact ⟨k + 1, by omega, by go_num, by rw [E.out] <;> rfl, B2⟩
    case measure => simp [intOf]; omega
  · have n1 : (x.node == nd) = false := beq_eq_false_iff_ne.2 hn
    have E : Hid (grtF ((absL l).take (k + 1)) nd = v) := Lib.hid (hs.out.trans (by unfold grtS; simp [f0, f2, hn]))
    clear hs f0 f2 f3 f4 f5 f6
    go_wp2_with fail
    go_roundw
    case rel => exact ⟨k + 1, by omega, by go_num, by rw [E.out] <;> rfl, B2⟩
    case measure => simp [intOf]; omega
end Go.Proofs.YtiokbebodblhaaaGreatDoor
