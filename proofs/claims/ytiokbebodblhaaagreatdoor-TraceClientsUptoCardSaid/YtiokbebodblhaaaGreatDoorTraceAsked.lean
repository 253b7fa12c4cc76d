/-
  Walk: are two requests alike. Printed by askedgen.py.
-/
import Derived.Test.YtiokbebodblhaaaGreatDoorTKn
namespace Go.Proofs.YtiokbebodblhaaaGreatDoor
open Go.RowKit TraceP

set_option maxRecDepth 100000 in
set_option maxHeartbeats 12800000 in
theorem asked_calls (w : World) (a b : ReqR) (ha : ReqOK w a) (hb : ReqOK w b) :
    Calls Tryz.prog 99 #[.agg #[.bool a.head, .string (bstr a.object), .slice a.specs.A a.specs.l.length a.specs.cap, .slice a.mtch.A a.mtch.l.length a.mtch.cap, .slice a.non.A a.non.l.length a.non.cap, .bool a.anyM, .bool a.anyN, .int .i64 a.since, .int .i64 a.unless_, .string (bstr a.range.text), .bool a.range.weak], .agg #[.bool b.head, .string (bstr b.object), .slice b.specs.A b.specs.l.length b.specs.cap, .slice b.mtch.A b.mtch.l.length b.mtch.cap, .slice b.non.A b.non.l.length b.non.cap, .bool b.anyM, .bool b.anyN, .int .i64 b.since, .int .i64 b.unless_, .string (bstr b.range.text), .bool b.range.weak]] w fun e w' => e = .returned (.bool (sm a.abs b.abs)) ∧ Below w.heap.size w w' := by
  have B0 := (below_new w (.cells #[.bool a.head, .string (bstr a.object), .slice a.specs.A a.specs.l.length a.specs.cap, .slice a.mtch.A a.mtch.l.length a.mtch.cap, .slice a.non.A a.non.l.length a.non.cap, .bool a.anyM, .bool a.anyN, .int .i64 a.since, .int .i64 a.unless_, .string (bstr a.range.text), .bool a.range.weak] 29)).trans ((below_new (w.alloc (.cells #[.bool a.head, .string (bstr a.object), .slice a.specs.A a.specs.l.length a.specs.cap, .slice a.mtch.A a.mtch.l.length a.mtch.cap, .slice a.non.A a.non.l.length a.non.cap, .bool a.anyM, .bool a.anyN, .int .i64 a.since, .int .i64 a.unless_, .string (bstr a.range.text), .bool a.range.weak] 29)) (.cells #[.bool b.head, .string (bstr b.object), .slice b.specs.A b.specs.l.length b.specs.cap, .slice b.mtch.A b.mtch.l.length b.mtch.cap, .slice b.non.A b.non.l.length b.non.cap, .bool b.anyM, .bool b.anyN, .int .i64 b.since, .int .i64 b.unless_, .string (bstr b.range.text), .bool b.range.weak] 29)).mono (by simp))
  have bA := (Blk.new w 29 #[.bool a.head, .string (bstr a.object), .slice a.specs.A a.specs.l.length a.specs.cap, .slice a.mtch.A a.mtch.l.length a.mtch.cap, .slice a.non.A a.non.l.length a.non.cap, .bool a.anyM, .bool a.anyN, .int .i64 a.since, .int .i64 a.unless_, .string (bstr a.range.text), .bool a.range.weak]).alloc (.cells #[.bool b.head, .string (bstr b.object), .slice b.specs.A b.specs.l.length b.specs.cap, .slice b.mtch.A b.mtch.l.length b.mtch.cap, .slice b.non.A b.non.l.length b.non.cap, .bool b.anyM, .bool b.anyN, .int .i64 b.since, .int .i64 b.unless_, .string (bstr b.range.text), .bool b.range.weak] 29)
  have bB := Blk.new (w.alloc (.cells #[.bool a.head, .string (bstr a.object), .slice a.specs.A a.specs.l.length a.specs.cap, .slice a.mtch.A a.mtch.l.length a.mtch.cap, .slice a.non.A a.non.l.length a.non.cap, .bool a.anyM, .bool a.anyN, .int .i64 a.since, .int .i64 a.unless_, .string (bstr a.range.text), .bool a.range.weak] 29)) 29 #[.bool b.head, .string (bstr b.object), .slice b.specs.A b.specs.l.length b.specs.cap, .slice b.mtch.A b.mtch.l.length b.mtch.cap, .slice b.non.A b.non.l.length b.non.cap, .bool b.anyM, .bool b.anyN, .int .i64 b.since, .int .i64 b.unless_, .string (bstr b.range.text), .bool b.range.weak]
  have hsz : (w.alloc (.cells #[.bool a.head, .string (bstr a.object), .slice a.specs.A a.specs.l.length a.specs.cap, .slice a.mtch.A a.mtch.l.length a.mtch.cap, .slice a.non.A a.non.l.length a.non.cap, .bool a.anyM, .bool a.anyN, .int .i64 a.since, .int .i64 a.unless_, .string (bstr a.range.text), .bool a.range.weak] 29)).heap.size = w.heap.size + 1 := by simp
  rw [hsz] at bB
  have hs2 : ((w.alloc (.cells #[.bool a.head, .string (bstr a.object), .slice a.specs.A a.specs.l.length a.specs.cap, .slice a.mtch.A a.mtch.l.length a.mtch.cap, .slice a.non.A a.non.l.length a.non.cap, .bool a.anyM, .bool a.anyN, .int .i64 a.since, .int .i64 a.unless_, .string (bstr a.range.text), .bool a.range.weak] 29)).alloc (.cells #[.bool b.head, .string (bstr b.object), .slice b.specs.A b.specs.l.length b.specs.cap, .slice b.mtch.A b.mtch.l.length b.mtch.cap, .slice b.non.A b.non.l.length b.non.cap, .bool b.anyM, .bool b.anyN, .int .i64 b.since, .int .i64 b.unless_, .string (bstr b.range.text), .bool b.range.weak] 29)).heap.size = w.heap.size + 2 := by simp
  have N0 : Hid ((a.head == b.head) = false → sm a.abs b.abs = false) := fun hq => sm_false (fun e => (show ¬ a.head = b.head from by intro h; rw [h] at hq; simp at hq) (by have := congrArg (fun z => z.head) e; exact this))
  have N1 : Hid (((bstr a.object).toList == (bstr b.object).toList) = false → sm a.abs b.abs = false) := fun hq => sm_false (fun e => (show ¬ a.object = b.object from by intro h; rw [h] at hq; simp at hq) (by have := congrArg (fun z => z.object) e; exact this))
  have N2 : Hid (sm a.specs.l b.specs.l = false → sm a.abs b.abs = false) := fun hq => sm_false (fun e => (show ¬ a.specs.l = b.specs.l from by intro h; rw [sm_true h] at hq; cases hq) (by have := congrArg (fun z => z.specs) e; exact this))
  have N3 : Hid (sm a.mtch.l b.mtch.l = false → sm a.abs b.abs = false) := fun hq => sm_false (fun e => (show ¬ a.mtch.l = b.mtch.l from by intro h; rw [sm_true h] at hq; cases hq) (by have := congrArg (fun z => z.cond.mtch) e; exact this))
  have N4 : Hid (sm a.non.l b.non.l = false → sm a.abs b.abs = false) := fun hq => sm_false (fun e => (show ¬ a.non.l = b.non.l from by intro h; rw [sm_true h] at hq; cases hq) (by have := congrArg (fun z => z.cond.non) e; exact this))
  have N5 : Hid ((a.anyM == b.anyM) = false → sm a.abs b.abs = false) := fun hq => sm_false (fun e => (show ¬ a.anyM = b.anyM from by intro h; rw [h] at hq; simp at hq) (by have := congrArg (fun z => z.cond.anyM) e; exact this))
  have N6 : Hid ((a.anyN == b.anyN) = false → sm a.abs b.abs = false) := fun hq => sm_false (fun e => (show ¬ a.anyN = b.anyN from by intro h; rw [h] at hq; simp at hq) (by have := congrArg (fun z => z.cond.anyN) e; exact this))
  have N7 : Hid ((a.since == b.since) = false → sm a.abs b.abs = false) := fun hq => sm_false (fun e => (show ¬ a.since = b.since from by intro h; rw [h] at hq; simp at hq) (by have := congrArg (fun z => z.cond.since) e; exact this))
  have N8 : Hid ((a.unless_ == b.unless_) = false → sm a.abs b.abs = false) := fun hq => sm_false (fun e => (show ¬ a.unless_ = b.unless_ from by intro h; rw [h] at hq; simp at hq) (by have := congrArg (fun z => z.cond.unless_) e; exact this))
  have N9 : Hid (sm a.range b.range = false → sm a.abs b.abs = false) := fun hq => sm_false (fun e => (show ¬ a.range = b.range from by intro h; rw [sm_true h] at hq; cases hq) (by have := congrArg (fun z => z.cond.range) e; exact this))
  have NT : Hid ((a.head == b.head) = true → ((bstr a.object).toList == (bstr b.object).toList) = true → sm a.specs.l b.specs.l = true → sm a.mtch.l b.mtch.l = true → sm a.non.l b.non.l = true → (a.anyM == b.anyM) = true → (a.anyN == b.anyN) = true → (a.since == b.since) = true → (a.unless_ == b.unless_) = true → sm a.range b.range = true → sm a.abs b.abs = true) := by
    intro h0 h1 h2 h3 h4 h5 h6 h7 h8 h9
    refine sm_true ?_
    unfold ReqR.abs
    rw [show a.head = b.head from (beq_iff_eq.1 h0), show a.object = b.object from (by rw [bstr_beq] at h1; exact beq_iff_eq.1 h1), show a.specs.l = b.specs.l from ((sm_iff _ _).1 h2), show a.mtch.l = b.mtch.l from ((sm_iff _ _).1 h3), show a.non.l = b.non.l from ((sm_iff _ _).1 h4), show a.anyM = b.anyM from (beq_iff_eq.1 h5), show a.anyN = b.anyN from (beq_iff_eq.1 h6), show a.since = b.since from (beq_iff_eq.1 h7), show a.unless_ = b.unless_ from (beq_iff_eq.1 h8), show a.range = b.range from ((sm_iff _ _).1 h9)]
  go_enter Tryz.func99, Tryz.ntmps99
  unfold Tryz.f99
  go_step
  go_step
  refine wp_region_lit ?_
  with_reducible refine wpList_cutAt 3 ?_
  go_wp2
  with_reducible refine CutQ.go_ (wpList_nil ?_)
  go_step
  go_step
  go_step
  generalize (w.alloc (.cells #[.bool a.head, .string (bstr a.object), .slice a.specs.A a.specs.l.length a.specs.cap, .slice a.mtch.A a.mtch.l.length a.mtch.cap, .slice a.non.A a.non.l.length a.non.cap, .bool a.anyM, .bool a.anyN, .int .i64 a.since, .int .i64 a.unless_, .string (bstr a.range.text), .bool a.range.weak] 29)).alloc (.cells #[.bool b.head, .string (bstr b.object), .slice b.specs.A b.specs.l.length b.specs.cap, .slice b.mtch.A b.mtch.l.length b.mtch.cap, .slice b.non.A b.non.l.length b.non.cap, .bool b.anyM, .bool b.anyN, .int .i64 b.since, .int .i64 b.unless_, .string (bstr b.range.text), .bool b.range.weak] 29) = w1 at *
  have a_3 := bA.at_ (i := 3) (v := .slice a.mtch.A a.mtch.l.length a.mtch.cap) rfl
  have b_3 := bB.at_ (i := 3) (v := .slice b.mtch.A b.mtch.l.length b.mtch.cap) rfl
  have a_4 := bA.at_ (i := 4) (v := .slice a.non.A a.non.l.length a.non.cap) rfl
  have b_4 := bB.at_ (i := 4) (v := .slice b.non.A b.non.l.length b.non.cap) rfl
  have a_5 := bA.at_ (i := 5) (v := .bool a.anyM) rfl
  have b_5 := bB.at_ (i := 5) (v := .bool b.anyM) rfl
  have a_6 := bA.at_ (i := 6) (v := .bool a.anyN) rfl
  have b_6 := bB.at_ (i := 6) (v := .bool b.anyN) rfl
  have a_7 := bA.at_ (i := 7) (v := .int .i64 a.since) rfl
  have b_7 := bB.at_ (i := 7) (v := .int .i64 b.since) rfl
  have a_8 := bA.at_ (i := 8) (v := .int .i64 a.unless_) rfl
  have b_8 := bB.at_ (i := 8) (v := .int .i64 b.unless_) rfl
  have a_9 := bA.at_ (i := 9) (v := .string (bstr a.range.text)) rfl
  have b_9 := bB.at_ (i := 9) (v := .string (bstr b.range.text)) rfl
  have a_10 := bA.at_ (i := 10) (v := .bool a.range.weak) rfl
  have b_10 := bB.at_ (i := 10) (v := .bool b.range.weak) rfl
  have hw1 : w1.heap.size = w.heap.size + 2 := hs2
  clear hs2 hsz
  go_region
  · have bX := (Blk.new w1 27 #[.slice a.mtch.A a.mtch.l.length a.mtch.cap, .slice a.non.A a.non.l.length a.non.cap, .bool a.anyM, .bool a.anyN, .int .i64 a.since, .int .i64 a.unless_, .string (bstr a.range.text), .bool a.range.weak]).alloc (.cells #[.slice b.mtch.A b.mtch.l.length b.mtch.cap, .slice b.non.A b.non.l.length b.non.cap, .bool b.anyM, .bool b.anyN, .int .i64 b.since, .int .i64 b.unless_, .string (bstr b.range.text), .bool b.range.weak] 27)
    have bY := Blk.new (w1.alloc (.cells #[.slice a.mtch.A a.mtch.l.length a.mtch.cap, .slice a.non.A a.non.l.length a.non.cap, .bool a.anyM, .bool a.anyN, .int .i64 a.since, .int .i64 a.unless_, .string (bstr a.range.text), .bool a.range.weak] 27)) 27 #[.slice b.mtch.A b.mtch.l.length b.mtch.cap, .slice b.non.A b.non.l.length b.non.cap, .bool b.anyM, .bool b.anyN, .int .i64 b.since, .int .i64 b.unless_, .string (bstr b.range.text), .bool b.range.weak]
    have hz : (w1.alloc (.cells #[.slice a.mtch.A a.mtch.l.length a.mtch.cap, .slice a.non.A a.non.l.length a.non.cap, .bool a.anyM, .bool a.anyN, .int .i64 a.since, .int .i64 a.unless_, .string (bstr a.range.text), .bool a.range.weak] 27)).heap.size = w.heap.size + 2 + 1 := by simp [hw1]
    rw [hz] at bY
    rw [hw1] at bX
    have dX0 : Below w.heap.size w ((w1.alloc (.cells #[.slice a.mtch.A a.mtch.l.length a.mtch.cap, .slice a.non.A a.non.l.length a.non.cap, .bool a.anyM, .bool a.anyN, .int .i64 a.since, .int .i64 a.unless_, .string (bstr a.range.text), .bool a.range.weak] 27)).alloc (.cells #[.slice b.mtch.A b.mtch.l.length b.mtch.cap, .slice b.non.A b.non.l.length b.non.cap, .bool b.anyM, .bool b.anyN, .int .i64 b.since, .int .i64 b.unless_, .string (bstr b.range.text), .bool b.range.weak] 27)) := (B0.trans ((below_new w1 (.cells #[.slice a.mtch.A a.mtch.l.length a.mtch.cap, .slice a.non.A a.non.l.length a.non.cap, .bool a.anyM, .bool a.anyN, .int .i64 a.since, .int .i64 a.unless_, .string (bstr a.range.text), .bool a.range.weak] 27)).mono (by rw [hw1]; exact Nat.le_add_right _ _))).trans ((below_new (w1.alloc (.cells #[.slice a.mtch.A a.mtch.l.length a.mtch.cap, .slice a.non.A a.non.l.length a.non.cap, .bool a.anyM, .bool a.anyN, .int .i64 a.since, .int .i64 a.unless_, .string (bstr a.range.text), .bool a.range.weak] 27)) (.cells #[.slice b.mtch.A b.mtch.l.length b.mtch.cap, .slice b.non.A b.non.l.length b.non.cap, .bool b.anyM, .bool b.anyN, .int .i64 b.since, .int .i64 b.unless_, .string (bstr b.range.text), .bool b.range.weak] 27)).mono (by rw [hz]; exact Nat.le_add_right _ 3))
    have dX : Below w.heap.size w ((w1.alloc (.cells #[.slice a.mtch.A a.mtch.l.length a.mtch.cap, .slice a.non.A a.non.l.length a.non.cap, .bool a.anyM, .bool a.anyN, .int .i64 a.since, .int .i64 a.unless_, .string (bstr a.range.text), .bool a.range.weak] 27)).alloc (.cells #[.slice b.mtch.A b.mtch.l.length b.mtch.cap, .slice b.non.A b.non.l.length b.non.cap, .bool b.anyM, .bool b.anyN, .int .i64 b.since, .int .i64 b.unless_, .string (bstr b.range.text), .bool b.range.weak] 27)).drew := ⟨dX0.os, dX0.tape, dX0.output, dX0.size, dX0.block⟩
    clear dX0
    go_step
    go_step
    go_step
    with_reducible refine wp_region_bare ?_
    with_reducible refine wpList_abs (fun w' => Blk w' w.heap.size 29 #[.bool a.head, .string (bstr a.object), .slice a.specs.A a.specs.l.length a.specs.cap, .slice a.mtch.A a.mtch.l.length a.mtch.cap, .slice a.non.A a.non.l.length a.non.cap, .bool a.anyM, .bool a.anyN, .int .i64 a.since, .int .i64 a.unless_, .string (bstr a.range.text), .bool a.range.weak] ∧ Blk w' (w.heap.size + 1) 29 #[.bool b.head, .string (bstr b.object), .slice b.specs.A b.specs.l.length b.specs.cap, .slice b.mtch.A b.mtch.l.length b.mtch.cap, .slice b.non.A b.non.l.length b.non.cap, .bool b.anyM, .bool b.anyN, .int .i64 b.since, .int .i64 b.unless_, .string (bstr b.range.text), .bool b.range.weak] ∧ Blk w' (w.heap.size + 2) 27 #[.slice a.mtch.A a.mtch.l.length a.mtch.cap, .slice a.non.A a.non.l.length a.non.cap, .bool a.anyM, .bool a.anyN, .int .i64 a.since, .int .i64 a.unless_, .string (bstr a.range.text), .bool a.range.weak] ∧ Blk w' (w.heap.size + 2 + 1) 27 #[.slice b.mtch.A b.mtch.l.length b.mtch.cap, .slice b.non.A b.non.l.length b.non.cap, .bool b.anyM, .bool b.anyN, .int .i64 b.since, .int .i64 b.unless_, .string (bstr b.range.text), .bool b.range.weak] ∧ Below w.heap.size w w' ∧ w.heap.size + 4 ≤ w'.heap.size) ⟨((bA.alloc _).alloc _).drew, ((bB.alloc _).alloc _).drew, bX.drew, bY.drew, dX, by simp [hw1]⟩ ?_
    clear bA bB bX bY dX hz B0 hw1 a_3 b_3 a_4 b_4 a_5 b_5 a_6 b_6 a_7 b_7 a_8 b_8 a_9 b_9 a_10 b_10
    rintro w0 ⟨bA0, bB0, bC0, bD0, B0, L0⟩
    simp only [List.append_eq, List.cons_append, List.nil_append, List.map_cons, List.map_nil, nubOp, bareOp]
    have a_0 := bA0.at_ (i := 0) (v := .bool a.head) rfl
    have b_0 := bB0.at_ (i := 0) (v := .bool b.head) rfl
    with_reducible refine wpList_cutAt 6 ?_
    simp only [List.take_succ_cons, List.take_zero, List.drop_succ_cons, List.drop_zero]
    repeat (first | go_values | go_skip | go_guarded | go_step | go_upon)
    with_reducible refine CutQ.go_ ?_
    clear a_0 b_0
    generalize hq0 : (a.head == b.head) = q0
    cases q0
    · with_reducible refine dead_end1 (n := 79) 16 4 (by kernel_rfl) (by kernel_rfl) (by kernel_rfl) ?_; intro a' fa da; (repeat go_step); (try simp only [Exit.inBlock, Exit.then]); refine bodyPost_ret (results_tmp rfl _ _ _) da ?_; exact ⟨by rw [N0.out hq0]; exact congrArg Ending.returned fa, B0⟩
    have a_1 := bA0.at_ (i := 1) (v := .string (bstr a.object)) rfl
    have b_1 := bB0.at_ (i := 1) (v := .string (bstr b.object)) rfl
    with_reducible refine wpList_cutAt 7 ?_
    simp only [List.take_succ_cons, List.take_zero, List.drop_succ_cons, List.drop_zero]
    repeat (first | go_values | go_skip | go_guarded | go_step | go_upon)
    with_reducible refine CutQ.go_ ?_
    clear a_1 b_1
    generalize hq1 : ((bstr a.object).toList == (bstr b.object).toList) = q1
    cases q1
    · with_reducible refine dead_end1 (n := 79) 23 4 (by kernel_rfl) (by kernel_rfl) (by kernel_rfl) ?_; intro a' fa da; (repeat go_step); (try simp only [Exit.inBlock, Exit.then]); refine bodyPost_ret (results_tmp rfl _ _ _) da ?_; exact ⟨by rw [N1.out hq1]; exact congrArg Ending.returned fa, B0⟩
    have a_2 := bA0.at_ (i := 2) (v := .slice a.specs.A a.specs.l.length a.specs.cap) rfl
    have b_2 := bB0.at_ (i := 2) (v := .slice b.specs.A b.specs.l.length b.specs.cap) rfl
    with_reducible refine wpList_cutAt 7 ?_
    simp only [List.take_succ_cons, List.take_zero, List.drop_succ_cons, List.drop_zero]
    go_wp2_with (go_at_call 136; refine (eqspecs_calls _ _ _ _ _ _ _ (ha.specs.rv.below B0) (hb.specs.rv.below B0) (Nat.le_trans ha.specs.le ha.specs.cap)).mono ?_; rintro _ w1 ⟨rfl, d1⟩; have B1 := B0.trans (d1.mono B0.size); have bA1 := bA0.below d1 bA0.lt; have bB1 := bB0.below d1 bB0.lt; have bC1 := bC0.below d1 bC0.lt; have bD1 := bD0.below d1 bD0.lt; clear d1 bA0 bB0 bC0 bD0 a_2 b_2)
    with_reducible refine CutQ.go_ ?_
    generalize hq2 : sm a.specs.l b.specs.l = q2
    cases q2
    · with_reducible refine dead_end1 (n := 79) 30 4 (by kernel_rfl) (by kernel_rfl) (by kernel_rfl) ?_; intro a' fa da; (repeat go_step); (try simp only [Exit.inBlock, Exit.then]); refine bodyPost_ret (results_tmp rfl _ _ _) da ?_; exact ⟨by rw [N2.out hq2]; exact congrArg Ending.returned fa, B1⟩
    have a_0 := bC1.at_ (i := 0) (v := .slice a.mtch.A a.mtch.l.length a.mtch.cap) rfl
    have b_0 := bD1.at_ (i := 0) (v := .slice b.mtch.A b.mtch.l.length b.mtch.cap) rfl
    with_reducible refine wpList_cutAt 7 ?_
    simp only [List.take_succ_cons, List.take_zero, List.drop_succ_cons, List.drop_zero]
    go_wp2_with (go_at_call 137; refine (eqtags_calls _ _ _ _ _ _ _ (ha.mtch.rv.below B1) (hb.mtch.rv.below B1) (Nat.le_trans ha.mtch.le ha.mtch.cap)).mono ?_; rintro _ w2 ⟨rfl, d2⟩; have B2 := B1.trans (d2.mono B1.size); have bA2 := bA1.below d2 bA1.lt; have bB2 := bB1.below d2 bB1.lt; have bC2 := bC1.below d2 bC1.lt; have bD2 := bD1.below d2 bD1.lt; clear d2 bA1 bB1 bC1 bD1 a_0 b_0)
    with_reducible refine CutQ.go_ ?_
    generalize hq3 : sm a.mtch.l b.mtch.l = q3
    cases q3
    · with_reducible refine dead_end1 (n := 79) 37 4 (by kernel_rfl) (by kernel_rfl) (by kernel_rfl) ?_; intro a' fa da; (repeat go_step); (try simp only [Exit.inBlock, Exit.then]); refine bodyPost_ret (results_tmp rfl _ _ _) da ?_; exact ⟨by rw [N3.out hq3]; exact congrArg Ending.returned fa, B2⟩
    have a_1 := bC2.at_ (i := 1) (v := .slice a.non.A a.non.l.length a.non.cap) rfl
    have b_1 := bD2.at_ (i := 1) (v := .slice b.non.A b.non.l.length b.non.cap) rfl
    with_reducible refine wpList_cutAt 7 ?_
    simp only [List.take_succ_cons, List.take_zero, List.drop_succ_cons, List.drop_zero]
    go_wp2_with (go_at_call 137; refine (eqtags_calls _ _ _ _ _ _ _ (ha.non.rv.below B2) (hb.non.rv.below B2) (Nat.le_trans ha.non.le ha.non.cap)).mono ?_; rintro _ w3 ⟨rfl, d3⟩; have B3 := B2.trans (d3.mono B2.size); have bA3 := bA2.below d3 bA2.lt; have bB3 := bB2.below d3 bB2.lt; have bC3 := bC2.below d3 bC2.lt; have bD3 := bD2.below d3 bD2.lt; clear d3 bA2 bB2 bC2 bD2 a_1 b_1)
    with_reducible refine CutQ.go_ ?_
    generalize hq4 : sm a.non.l b.non.l = q4
    cases q4
    · with_reducible refine dead_end1 (n := 79) 44 4 (by kernel_rfl) (by kernel_rfl) (by kernel_rfl) ?_; intro a' fa da; (repeat go_step); (try simp only [Exit.inBlock, Exit.then]); refine bodyPost_ret (results_tmp rfl _ _ _) da ?_; exact ⟨by rw [N4.out hq4]; exact congrArg Ending.returned fa, B3⟩
    have a_2 := bC3.at_ (i := 2) (v := .bool a.anyM) rfl
    have b_2 := bD3.at_ (i := 2) (v := .bool b.anyM) rfl
    with_reducible refine wpList_cutAt 7 ?_
    simp only [List.take_succ_cons, List.take_zero, List.drop_succ_cons, List.drop_zero]
    repeat (first | go_values | go_skip | go_guarded | go_step | go_upon)
    with_reducible refine CutQ.go_ ?_
    clear a_2 b_2
    generalize hq5 : (a.anyM == b.anyM) = q5
    cases q5
    · with_reducible refine dead_end1 (n := 79) 51 4 (by kernel_rfl) (by kernel_rfl) (by kernel_rfl) ?_; intro a' fa da; (repeat go_step); (try simp only [Exit.inBlock, Exit.then]); refine bodyPost_ret (results_tmp rfl _ _ _) da ?_; exact ⟨by rw [N5.out hq5]; exact congrArg Ending.returned fa, B3⟩
    have a_3 := bC3.at_ (i := 3) (v := .bool a.anyN) rfl
    have b_3 := bD3.at_ (i := 3) (v := .bool b.anyN) rfl
    with_reducible refine wpList_cutAt 7 ?_
    simp only [List.take_succ_cons, List.take_zero, List.drop_succ_cons, List.drop_zero]
    repeat (first | go_values | go_skip | go_guarded | go_step | go_upon)
    with_reducible refine CutQ.go_ ?_
    clear a_3 b_3
    generalize hq6 : (a.anyN == b.anyN) = q6
    cases q6
    · with_reducible refine dead_end1 (n := 79) 58 4 (by kernel_rfl) (by kernel_rfl) (by kernel_rfl) ?_; intro a' fa da; (repeat go_step); (try simp only [Exit.inBlock, Exit.then]); refine bodyPost_ret (results_tmp rfl _ _ _) da ?_; exact ⟨by rw [N6.out hq6]; exact congrArg Ending.returned fa, B3⟩
    have a_4 := bC3.at_ (i := 4) (v := .int .i64 a.since) rfl
    have b_4 := bD3.at_ (i := 4) (v := .int .i64 b.since) rfl
    with_reducible refine wpList_cutAt 7 ?_
    simp only [List.take_succ_cons, List.take_zero, List.drop_succ_cons, List.drop_zero]
    repeat (first | go_values | go_skip | go_guarded | go_step | go_upon)
    with_reducible refine CutQ.go_ ?_
    clear a_4 b_4
    generalize hq7 : (a.since == b.since) = q7
    cases q7
    · with_reducible refine dead_end1 (n := 79) 65 4 (by kernel_rfl) (by kernel_rfl) (by kernel_rfl) ?_; intro a' fa da; (repeat go_step); (try simp only [Exit.inBlock, Exit.then]); refine bodyPost_ret (results_tmp rfl _ _ _) da ?_; exact ⟨by rw [N7.out hq7]; exact congrArg Ending.returned fa, B3⟩
    have a_5 := bC3.at_ (i := 5) (v := .int .i64 a.unless_) rfl
    have b_5 := bD3.at_ (i := 5) (v := .int .i64 b.unless_) rfl
    with_reducible refine wpList_cutAt 7 ?_
    simp only [List.take_succ_cons, List.take_zero, List.drop_succ_cons, List.drop_zero]
    repeat (first | go_values | go_skip | go_guarded | go_step | go_upon)
    with_reducible refine CutQ.go_ ?_
    clear a_5 b_5
    generalize hq8 : (a.unless_ == b.unless_) = q8
    cases q8
    · with_reducible refine dead_end1 (n := 79) 72 4 (by kernel_rfl) (by kernel_rfl) (by kernel_rfl) ?_; intro a' fa da; (repeat go_step); (try simp only [Exit.inBlock, Exit.then]); refine bodyPost_ret (results_tmp rfl _ _ _) da ?_; exact ⟨by rw [N8.out hq8]; exact congrArg Ending.returned fa, B3⟩
    have a_6 := bC3.at_ (i := 6) (v := .string (bstr a.range.text)) rfl
    have b_6 := bD3.at_ (i := 6) (v := .string (bstr b.range.text)) rfl
    have a_7 := bC3.at_ (i := 7) (v := .bool a.range.weak) rfl
    have b_7 := bD3.at_ (i := 7) (v := .bool b.range.weak) rfl
    with_reducible refine wpList_cutAt 4 ?_
    simp only [List.take_succ_cons, List.take_zero, List.drop_succ_cons, List.drop_zero]
    repeat (first | go_values | go_skip | go_guarded | go_step | go_upon)
    with_reducible refine CutQ.go_ (wpList_one (by kernel_rfl) (fun K hK => ?_))
    with_reducible refine tag_eql (x := .tmp 74) (y := .tmp 76) a.range b.range (by kernel_rfl) (by kernel_rfl) (by kernel_rfl) (hK _ _ ?_)
    clear hK K
    repeat (first | go_values | go_skip | go_guarded | go_step | go_upon)
    go_ret
    cases hq9 : sm a.range b.range
    · exact ⟨by rw [N9.out hq9]; simp, B3⟩
    · exact ⟨by rw [NT.out hq0 hq1 hq2 hq3 hq4 hq5 hq6 hq7 hq8 hq9]; simp, B3⟩
  · have bX := (Blk.new w1 27 #[.slice b.mtch.A b.mtch.l.length b.mtch.cap, .slice b.non.A b.non.l.length b.non.cap, .bool b.anyM, .bool b.anyN, .int .i64 b.since, .int .i64 b.unless_, .string (bstr b.range.text), .bool b.range.weak]).alloc (.cells #[.slice a.mtch.A a.mtch.l.length a.mtch.cap, .slice a.non.A a.non.l.length a.non.cap, .bool a.anyM, .bool a.anyN, .int .i64 a.since, .int .i64 a.unless_, .string (bstr a.range.text), .bool a.range.weak] 27)
    have bY := Blk.new (w1.alloc (.cells #[.slice b.mtch.A b.mtch.l.length b.mtch.cap, .slice b.non.A b.non.l.length b.non.cap, .bool b.anyM, .bool b.anyN, .int .i64 b.since, .int .i64 b.unless_, .string (bstr b.range.text), .bool b.range.weak] 27)) 27 #[.slice a.mtch.A a.mtch.l.length a.mtch.cap, .slice a.non.A a.non.l.length a.non.cap, .bool a.anyM, .bool a.anyN, .int .i64 a.since, .int .i64 a.unless_, .string (bstr a.range.text), .bool a.range.weak]
    have hz : (w1.alloc (.cells #[.slice b.mtch.A b.mtch.l.length b.mtch.cap, .slice b.non.A b.non.l.length b.non.cap, .bool b.anyM, .bool b.anyN, .int .i64 b.since, .int .i64 b.unless_, .string (bstr b.range.text), .bool b.range.weak] 27)).heap.size = w.heap.size + 2 + 1 := by simp [hw1]
    rw [hz] at bY
    rw [hw1] at bX
    have dX0 : Below w.heap.size w ((w1.alloc (.cells #[.slice b.mtch.A b.mtch.l.length b.mtch.cap, .slice b.non.A b.non.l.length b.non.cap, .bool b.anyM, .bool b.anyN, .int .i64 b.since, .int .i64 b.unless_, .string (bstr b.range.text), .bool b.range.weak] 27)).alloc (.cells #[.slice a.mtch.A a.mtch.l.length a.mtch.cap, .slice a.non.A a.non.l.length a.non.cap, .bool a.anyM, .bool a.anyN, .int .i64 a.since, .int .i64 a.unless_, .string (bstr a.range.text), .bool a.range.weak] 27)) := (B0.trans ((below_new w1 (.cells #[.slice b.mtch.A b.mtch.l.length b.mtch.cap, .slice b.non.A b.non.l.length b.non.cap, .bool b.anyM, .bool b.anyN, .int .i64 b.since, .int .i64 b.unless_, .string (bstr b.range.text), .bool b.range.weak] 27)).mono (by rw [hw1]; exact Nat.le_add_right _ _))).trans ((below_new (w1.alloc (.cells #[.slice b.mtch.A b.mtch.l.length b.mtch.cap, .slice b.non.A b.non.l.length b.non.cap, .bool b.anyM, .bool b.anyN, .int .i64 b.since, .int .i64 b.unless_, .string (bstr b.range.text), .bool b.range.weak] 27)) (.cells #[.slice a.mtch.A a.mtch.l.length a.mtch.cap, .slice a.non.A a.non.l.length a.non.cap, .bool a.anyM, .bool a.anyN, .int .i64 a.since, .int .i64 a.unless_, .string (bstr a.range.text), .bool a.range.weak] 27)).mono (by rw [hz]; exact Nat.le_add_right _ 3))
    have dX : Below w.heap.size w ((w1.alloc (.cells #[.slice b.mtch.A b.mtch.l.length b.mtch.cap, .slice b.non.A b.non.l.length b.non.cap, .bool b.anyM, .bool b.anyN, .int .i64 b.since, .int .i64 b.unless_, .string (bstr b.range.text), .bool b.range.weak] 27)).alloc (.cells #[.slice a.mtch.A a.mtch.l.length a.mtch.cap, .slice a.non.A a.non.l.length a.non.cap, .bool a.anyM, .bool a.anyN, .int .i64 a.since, .int .i64 a.unless_, .string (bstr a.range.text), .bool a.range.weak] 27)).drew := ⟨dX0.os, dX0.tape, dX0.output, dX0.size, dX0.block⟩
    clear dX0
    go_step
    go_step
    go_step
    with_reducible refine wp_region_bare ?_
    with_reducible refine wpList_abs (fun w' => Blk w' w.heap.size 29 #[.bool a.head, .string (bstr a.object), .slice a.specs.A a.specs.l.length a.specs.cap, .slice a.mtch.A a.mtch.l.length a.mtch.cap, .slice a.non.A a.non.l.length a.non.cap, .bool a.anyM, .bool a.anyN, .int .i64 a.since, .int .i64 a.unless_, .string (bstr a.range.text), .bool a.range.weak] ∧ Blk w' (w.heap.size + 1) 29 #[.bool b.head, .string (bstr b.object), .slice b.specs.A b.specs.l.length b.specs.cap, .slice b.mtch.A b.mtch.l.length b.mtch.cap, .slice b.non.A b.non.l.length b.non.cap, .bool b.anyM, .bool b.anyN, .int .i64 b.since, .int .i64 b.unless_, .string (bstr b.range.text), .bool b.range.weak] ∧ Blk w' (w.heap.size + 2 + 1) 27 #[.slice a.mtch.A a.mtch.l.length a.mtch.cap, .slice a.non.A a.non.l.length a.non.cap, .bool a.anyM, .bool a.anyN, .int .i64 a.since, .int .i64 a.unless_, .string (bstr a.range.text), .bool a.range.weak] ∧ Blk w' (w.heap.size + 2) 27 #[.slice b.mtch.A b.mtch.l.length b.mtch.cap, .slice b.non.A b.non.l.length b.non.cap, .bool b.anyM, .bool b.anyN, .int .i64 b.since, .int .i64 b.unless_, .string (bstr b.range.text), .bool b.range.weak] ∧ Below w.heap.size w w' ∧ w.heap.size + 4 ≤ w'.heap.size) ⟨((bA.alloc _).alloc _).drew, ((bB.alloc _).alloc _).drew, bY.drew, bX.drew, dX, by simp [hw1]⟩ ?_
    clear bA bB bX bY dX hz B0 hw1 a_3 b_3 a_4 b_4 a_5 b_5 a_6 b_6 a_7 b_7 a_8 b_8 a_9 b_9 a_10 b_10
    rintro w0 ⟨bA0, bB0, bC0, bD0, B0, L0⟩
    simp only [List.append_eq, List.cons_append, List.nil_append, List.map_cons, List.map_nil, nubOp, bareOp]
    have a_0 := bA0.at_ (i := 0) (v := .bool a.head) rfl
    have b_0 := bB0.at_ (i := 0) (v := .bool b.head) rfl
    with_reducible refine wpList_cutAt 6 ?_
    simp only [List.take_succ_cons, List.take_zero, List.drop_succ_cons, List.drop_zero]
    repeat (first | go_values | go_skip | go_guarded | go_step | go_upon)
    with_reducible refine CutQ.go_ ?_
    clear a_0 b_0
    generalize hq0 : (a.head == b.head) = q0
    cases q0
    · with_reducible refine dead_end1 (n := 79) 16 4 (by kernel_rfl) (by kernel_rfl) (by kernel_rfl) ?_; intro a' fa da; (repeat go_step); (try simp only [Exit.inBlock, Exit.then]); refine bodyPost_ret (results_tmp rfl _ _ _) da ?_; exact ⟨by rw [N0.out hq0]; exact congrArg Ending.returned fa, B0⟩
    have a_1 := bA0.at_ (i := 1) (v := .string (bstr a.object)) rfl
    have b_1 := bB0.at_ (i := 1) (v := .string (bstr b.object)) rfl
    with_reducible refine wpList_cutAt 7 ?_
    simp only [List.take_succ_cons, List.take_zero, List.drop_succ_cons, List.drop_zero]
    repeat (first | go_values | go_skip | go_guarded | go_step | go_upon)
    with_reducible refine CutQ.go_ ?_
    clear a_1 b_1
    generalize hq1 : ((bstr a.object).toList == (bstr b.object).toList) = q1
    cases q1
    · with_reducible refine dead_end1 (n := 79) 23 4 (by kernel_rfl) (by kernel_rfl) (by kernel_rfl) ?_; intro a' fa da; (repeat go_step); (try simp only [Exit.inBlock, Exit.then]); refine bodyPost_ret (results_tmp rfl _ _ _) da ?_; exact ⟨by rw [N1.out hq1]; exact congrArg Ending.returned fa, B0⟩
    have a_2 := bA0.at_ (i := 2) (v := .slice a.specs.A a.specs.l.length a.specs.cap) rfl
    have b_2 := bB0.at_ (i := 2) (v := .slice b.specs.A b.specs.l.length b.specs.cap) rfl
    with_reducible refine wpList_cutAt 7 ?_
    simp only [List.take_succ_cons, List.take_zero, List.drop_succ_cons, List.drop_zero]
    go_wp2_with (go_at_call 136; refine (eqspecs_calls _ _ _ _ _ _ _ (ha.specs.rv.below B0) (hb.specs.rv.below B0) (Nat.le_trans ha.specs.le ha.specs.cap)).mono ?_; rintro _ w1 ⟨rfl, d1⟩; have B1 := B0.trans (d1.mono B0.size); have bA1 := bA0.below d1 bA0.lt; have bB1 := bB0.below d1 bB0.lt; have bC1 := bC0.below d1 bC0.lt; have bD1 := bD0.below d1 bD0.lt; clear d1 bA0 bB0 bC0 bD0 a_2 b_2)
    with_reducible refine CutQ.go_ ?_
    generalize hq2 : sm a.specs.l b.specs.l = q2
    cases q2
    · with_reducible refine dead_end1 (n := 79) 30 4 (by kernel_rfl) (by kernel_rfl) (by kernel_rfl) ?_; intro a' fa da; (repeat go_step); (try simp only [Exit.inBlock, Exit.then]); refine bodyPost_ret (results_tmp rfl _ _ _) da ?_; exact ⟨by rw [N2.out hq2]; exact congrArg Ending.returned fa, B1⟩
    have a_0 := bC1.at_ (i := 0) (v := .slice a.mtch.A a.mtch.l.length a.mtch.cap) rfl
    have b_0 := bD1.at_ (i := 0) (v := .slice b.mtch.A b.mtch.l.length b.mtch.cap) rfl
    with_reducible refine wpList_cutAt 7 ?_
    simp only [List.take_succ_cons, List.take_zero, List.drop_succ_cons, List.drop_zero]
    go_wp2_with (go_at_call 137; refine (eqtags_calls _ _ _ _ _ _ _ (ha.mtch.rv.below B1) (hb.mtch.rv.below B1) (Nat.le_trans ha.mtch.le ha.mtch.cap)).mono ?_; rintro _ w2 ⟨rfl, d2⟩; have B2 := B1.trans (d2.mono B1.size); have bA2 := bA1.below d2 bA1.lt; have bB2 := bB1.below d2 bB1.lt; have bC2 := bC1.below d2 bC1.lt; have bD2 := bD1.below d2 bD1.lt; clear d2 bA1 bB1 bC1 bD1 a_0 b_0)
    with_reducible refine CutQ.go_ ?_
    generalize hq3 : sm a.mtch.l b.mtch.l = q3
    cases q3
    · with_reducible refine dead_end1 (n := 79) 37 4 (by kernel_rfl) (by kernel_rfl) (by kernel_rfl) ?_; intro a' fa da; (repeat go_step); (try simp only [Exit.inBlock, Exit.then]); refine bodyPost_ret (results_tmp rfl _ _ _) da ?_; exact ⟨by rw [N3.out hq3]; exact congrArg Ending.returned fa, B2⟩
    have a_1 := bC2.at_ (i := 1) (v := .slice a.non.A a.non.l.length a.non.cap) rfl
    have b_1 := bD2.at_ (i := 1) (v := .slice b.non.A b.non.l.length b.non.cap) rfl
    with_reducible refine wpList_cutAt 7 ?_
    simp only [List.take_succ_cons, List.take_zero, List.drop_succ_cons, List.drop_zero]
    go_wp2_with (go_at_call 137; refine (eqtags_calls _ _ _ _ _ _ _ (ha.non.rv.below B2) (hb.non.rv.below B2) (Nat.le_trans ha.non.le ha.non.cap)).mono ?_; rintro _ w3 ⟨rfl, d3⟩; have B3 := B2.trans (d3.mono B2.size); have bA3 := bA2.below d3 bA2.lt; have bB3 := bB2.below d3 bB2.lt; have bC3 := bC2.below d3 bC2.lt; have bD3 := bD2.below d3 bD2.lt; clear d3 bA2 bB2 bC2 bD2 a_1 b_1)
    with_reducible refine CutQ.go_ ?_
    generalize hq4 : sm a.non.l b.non.l = q4
    cases q4
    · with_reducible refine dead_end1 (n := 79) 44 4 (by kernel_rfl) (by kernel_rfl) (by kernel_rfl) ?_; intro a' fa da; (repeat go_step); (try simp only [Exit.inBlock, Exit.then]); refine bodyPost_ret (results_tmp rfl _ _ _) da ?_; exact ⟨by rw [N4.out hq4]; exact congrArg Ending.returned fa, B3⟩
    have a_2 := bC3.at_ (i := 2) (v := .bool a.anyM) rfl
    have b_2 := bD3.at_ (i := 2) (v := .bool b.anyM) rfl
    with_reducible refine wpList_cutAt 7 ?_
    simp only [List.take_succ_cons, List.take_zero, List.drop_succ_cons, List.drop_zero]
    repeat (first | go_values | go_skip | go_guarded | go_step | go_upon)
    with_reducible refine CutQ.go_ ?_
    clear a_2 b_2
    generalize hq5 : (a.anyM == b.anyM) = q5
    cases q5
    · with_reducible refine dead_end1 (n := 79) 51 4 (by kernel_rfl) (by kernel_rfl) (by kernel_rfl) ?_; intro a' fa da; (repeat go_step); (try simp only [Exit.inBlock, Exit.then]); refine bodyPost_ret (results_tmp rfl _ _ _) da ?_; exact ⟨by rw [N5.out hq5]; exact congrArg Ending.returned fa, B3⟩
    have a_3 := bC3.at_ (i := 3) (v := .bool a.anyN) rfl
    have b_3 := bD3.at_ (i := 3) (v := .bool b.anyN) rfl
    with_reducible refine wpList_cutAt 7 ?_
    simp only [List.take_succ_cons, List.take_zero, List.drop_succ_cons, List.drop_zero]
    repeat (first | go_values | go_skip | go_guarded | go_step | go_upon)
    with_reducible refine CutQ.go_ ?_
    clear a_3 b_3
    generalize hq6 : (a.anyN == b.anyN) = q6
    cases q6
    · with_reducible refine dead_end1 (n := 79) 58 4 (by kernel_rfl) (by kernel_rfl) (by kernel_rfl) ?_; intro a' fa da; (repeat go_step); (try simp only [Exit.inBlock, Exit.then]); refine bodyPost_ret (results_tmp rfl _ _ _) da ?_; exact ⟨by rw [N6.out hq6]; exact congrArg Ending.returned fa, B3⟩
    have a_4 := bC3.at_ (i := 4) (v := .int .i64 a.since) rfl
    have b_4 := bD3.at_ (i := 4) (v := .int .i64 b.since) rfl
    with_reducible refine wpList_cutAt 7 ?_
    simp only [List.take_succ_cons, List.take_zero, List.drop_succ_cons, List.drop_zero]
    repeat (first | go_values | go_skip | go_guarded | go_step | go_upon)
    with_reducible refine CutQ.go_ ?_
    clear a_4 b_4
    generalize hq7 : (a.since == b.since) = q7
    cases q7
    · with_reducible refine dead_end1 (n := 79) 65 4 (by kernel_rfl) (by kernel_rfl) (by kernel_rfl) ?_; intro a' fa da; (repeat go_step); (try simp only [Exit.inBlock, Exit.then]); refine bodyPost_ret (results_tmp rfl _ _ _) da ?_; exact ⟨by rw [N7.out hq7]; exact congrArg Ending.returned fa, B3⟩
    have a_5 := bC3.at_ (i := 5) (v := .int .i64 a.unless_) rfl
    have b_5 := bD3.at_ (i := 5) (v := .int .i64 b.unless_) rfl
    with_reducible refine wpList_cutAt 7 ?_
    simp only [List.take_succ_cons, List.take_zero, List.drop_succ_cons, List.drop_zero]
    repeat (first | go_values | go_skip | go_guarded | go_step | go_upon)
    with_reducible refine CutQ.go_ ?_
    clear a_5 b_5
    generalize hq8 : (a.unless_ == b.unless_) = q8
    cases q8
    · with_reducible refine dead_end1 (n := 79) 72 4 (by kernel_rfl) (by kernel_rfl) (by kernel_rfl) ?_; intro a' fa da; (repeat go_step); (try simp only [Exit.inBlock, Exit.then]); refine bodyPost_ret (results_tmp rfl _ _ _) da ?_; exact ⟨by rw [N8.out hq8]; exact congrArg Ending.returned fa, B3⟩
    have a_6 := bC3.at_ (i := 6) (v := .string (bstr a.range.text)) rfl
    have b_6 := bD3.at_ (i := 6) (v := .string (bstr b.range.text)) rfl
    have a_7 := bC3.at_ (i := 7) (v := .bool a.range.weak) rfl
    have b_7 := bD3.at_ (i := 7) (v := .bool b.range.weak) rfl
    with_reducible refine wpList_cutAt 4 ?_
    simp only [List.take_succ_cons, List.take_zero, List.drop_succ_cons, List.drop_zero]
    repeat (first | go_values | go_skip | go_guarded | go_step | go_upon)
    with_reducible refine CutQ.go_ (wpList_one (by kernel_rfl) (fun K hK => ?_))
    with_reducible refine tag_eql (x := .tmp 74) (y := .tmp 76) a.range b.range (by kernel_rfl) (by kernel_rfl) (by kernel_rfl) (hK _ _ ?_)
    clear hK K
    repeat (first | go_values | go_skip | go_guarded | go_step | go_upon)
    go_ret
    cases hq9 : sm a.range b.range
    · exact ⟨by rw [N9.out hq9]; simp, B3⟩
    · exact ⟨by rw [NT.out hq0 hq1 hq2 hq3 hq4 hq5 hq6 hq7 hq8 hq9]; simp, B3⟩
end Go.Proofs.YtiokbebodblhaaaGreatDoor
