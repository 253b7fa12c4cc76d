/-
  Walk: are two events alike. Printed by alikegen4.py.
-/
import Derived.Test.YtiokbebodblhaaaGreatDoorTKn
import Derived.Test.YtiokbebodblhaaaGreatDoorTraceAsked
namespace Go.Proofs.YtiokbebodblhaaaGreatDoor
open Go.RowKit TraceP
set_option maxRecDepth 100000 in
set_option maxHeartbeats 12800000 in
theorem alike_calls (w : World) (a b : EvtR) (ha : EvtOK w a) (hb : EvtOK w b) :
    Calls Tryz.prog 50 #[.agg a.cells.toArray, .agg b.cells.toArray] w fun e w' => e = .returned (.bool (sm a.abs b.abs)) ∧ Below w.heap.size w w' := by
  have B0 := (below_new w (.cells a.cells.toArray 45)).trans ((below_new (w.alloc (.cells a.cells.toArray 45)) (.cells b.cells.toArray 45)).mono (by simp))
  have bA := (Blk.new w 45 a.cells.toArray).alloc (.cells b.cells.toArray 45)
  have bB := Blk.new (w.alloc (.cells a.cells.toArray 45)) 45 b.cells.toArray
  have hsz : (w.alloc (.cells a.cells.toArray 45)).heap.size = w.heap.size + 1 := by simp
  rw [hsz] at bB
  have N0 : Hid ((a.kind == b.kind) = false → sm a.abs b.abs = false) := fun hq => sm_false (fun e => (show ¬ a.kind = b.kind from by intro h; rw [h] at hq; simp at hq) (by have := congrArg (fun z => z.kind) e; exact this))
  have k0 : True := trivial
  have N1 : Hid ((a.tick == b.tick) = false → sm a.abs b.abs = false) := fun hq => sm_false (fun e => (show ¬ a.tick = b.tick from by intro h; rw [h] at hq; simp at hq) (by have := congrArg (fun z => z.tick) e; exact this))
  have k1 : True := trivial
  have N2 : Hid ((a.node == b.node) = false → sm a.abs b.abs = false) := fun hq => sm_false (fun e => (show ¬ a.node = b.node from by intro h; rw [h] at hq; simp at hq) (by have := congrArg (fun z => z.node) e; exact this))
  have k2 : True := trivial
  have N3 : Hid ((a.who == b.who) = false → sm a.abs b.abs = false) := fun hq => sm_false (fun e => (show ¬ a.who = b.who from by intro h; rw [h] at hq; simp at hq) (by have := congrArg (fun z => z.who) e; exact this))
  have k3 : True := trivial
  have N4 : Hid (((bstr a.object).toList == (bstr b.object).toList) = false → sm a.abs b.abs = false) := fun hq => sm_false (fun e => (show ¬ a.object = b.object from by intro h; rw [h] at hq; simp at hq) (by have := congrArg (fun z => z.object) e; exact this))
  have k4 : True := trivial
  have N5 : Hid (sm a.req.abs b.req.abs = false → sm a.abs b.abs = false) := fun hq => sm_false (fun e => (show ¬ a.req.abs = b.req.abs from by intro h; rw [sm_true h] at hq; cases hq) (by have := congrArg (fun z => z.req) e; exact this))
  have k5 : True := trivial
  have N6 : Hid (sm a.met.abs b.met.abs = false → sm a.abs b.abs = false) := fun hq => sm_false (fun e => (show ¬ a.met.abs = b.met.abs from by intro h; rw [sm_true h] at hq; cases hq) (by have := congrArg (fun z => z.met) e; exact this))
  have k6 : True := trivial
  have N7 : Hid (sm a.ans.abs b.ans.abs = false → sm a.abs b.abs = false) := fun hq => sm_false (fun e => (show ¬ a.ans.abs = b.ans.abs from by intro h; rw [sm_true h] at hq; cases hq) (by have := congrArg (fun z => z.ans) e; exact this))
  have k7 : True := trivial
  have N8 : Hid (sm a.fet b.fet = false → sm a.abs b.abs = false) := fun hq => sm_false (fun e => (show ¬ a.fet = b.fet from by intro h; rw [sm_true h] at hq; cases hq) (by have := congrArg (fun z => z.fet) e; exact this))
  have k8 : True := trivial
  have N9 : Hid ((a.rep.status == b.rep.status) = false → sm a.abs b.abs = false) := fun hq => sm_false (fun e => (show ¬ a.rep.status = b.rep.status from by intro h; rw [h] at hq; simp at hq) (by have := congrArg (fun z => z.rep.status) e; exact this))
  have k9 : True := trivial
  have N10 : Hid (sm a.rep.met.abs b.rep.met.abs = false → sm a.abs b.abs = false) := fun hq => sm_false (fun e => (show ¬ a.rep.met.abs = b.rep.met.abs from by intro h; rw [sm_true h] at hq; cases hq) (by have := congrArg (fun z => z.rep.met) e; exact this))
  have k10 : True := trivial
  have N11 : Hid (sm a.rep.span b.rep.span = false → sm a.abs b.abs = false) := fun hq => sm_false (fun e => (show ¬ a.rep.span = b.rep.span from by intro h; rw [sm_true h] at hq; cases hq) (by have := congrArg (fun z => z.rep.span) e; exact this))
  have k11 : True := trivial
  have N12 : Hid ((a.rep.age == b.rep.age) = false → sm a.abs b.abs = false) := fun hq => sm_false (fun e => (show ¬ a.rep.age = b.rep.age from by intro h; rw [h] at hq; simp at hq) (by have := congrArg (fun z => z.rep.age) e; exact this))
  have k12 : True := trivial
  have N13 : Hid (sm a.bytes.l b.bytes.l = false → sm a.abs b.abs = false) := fun hq => sm_false (fun e => (show ¬ a.bytes.l = b.bytes.l from by intro h; rw [sm_true h] at hq; cases hq) (by have := congrArg (fun z => z.bytes) e; exact this))
  have k13 : True := trivial
  have N14 : Hid (sm a.keys.l b.keys.l = false → sm a.abs b.abs = false) := fun hq => sm_false (fun e => (show ¬ a.keys.l = b.keys.l from by intro h; rw [sm_true h] at hq; cases hq) (by have := congrArg (fun z => z.keys) e; exact this))
  have k14 : True := trivial
  have N15 : Hid ((a.hard == b.hard) = false → sm a.abs b.abs = false) := fun hq => sm_false (fun e => (show ¬ a.hard = b.hard from by intro h; rw [h] at hq; simp at hq) (by have := congrArg (fun z => z.hard) e; exact this))
  have k15 : True := trivial
  have N16 : Hid ((a.whole == b.whole) = false → sm a.abs b.abs = false) := fun hq => sm_false (fun e => (show ¬ a.whole = b.whole from by intro h; rw [h] at hq; simp at hq) (by have := congrArg (fun z => z.whole) e; exact this))
  have k16 : True := trivial
  have NT : Hid ((a.kind == b.kind) = true → (a.tick == b.tick) = true → (a.node == b.node) = true → (a.who == b.who) = true → ((bstr a.object).toList == (bstr b.object).toList) = true → sm a.req.abs b.req.abs = true → sm a.met.abs b.met.abs = true → sm a.ans.abs b.ans.abs = true → sm a.fet b.fet = true → (a.rep.status == b.rep.status) = true → sm a.rep.met.abs b.rep.met.abs = true → sm a.rep.span b.rep.span = true → (a.rep.age == b.rep.age) = true → sm a.bytes.l b.bytes.l = true → sm a.keys.l b.keys.l = true → (a.hard == b.hard) = true → (a.whole == b.whole) = true → sm a.abs b.abs = true) := by
    intro h0 h1 h2 h3 h4 h5 h6 h7 h8 h9 h10 h11 h12 h13 h14 h15 h16
    refine sm_true ?_
    unfold EvtR.abs RepR.abs
    rw [show a.kind = b.kind from (beq_iff_eq.1 h0), show a.tick = b.tick from (beq_iff_eq.1 h1), show a.node = b.node from (beq_iff_eq.1 h2), show a.who = b.who from (beq_iff_eq.1 h3), show a.object = b.object from (by rw [bstr_beq] at h4; exact beq_iff_eq.1 h4), show a.req.abs = b.req.abs from ((sm_iff _ _).1 h5), show a.met.abs = b.met.abs from ((sm_iff _ _).1 h6), show a.ans.abs = b.ans.abs from ((sm_iff _ _).1 h7), show a.fet = b.fet from ((sm_iff _ _).1 h8), show a.rep.status = b.rep.status from (beq_iff_eq.1 h9), show a.rep.met.abs = b.rep.met.abs from ((sm_iff _ _).1 h10), show a.rep.span = b.rep.span from ((sm_iff _ _).1 h11), show a.rep.age = b.rep.age from (beq_iff_eq.1 h12), show a.bytes.l = b.bytes.l from ((sm_iff _ _).1 h13), show a.keys.l = b.keys.l from ((sm_iff _ _).1 h14), show a.hard = b.hard from (beq_iff_eq.1 h15), show a.whole = b.whole from (beq_iff_eq.1 h16)]
  go_enter Tryz.func50, Tryz.ntmps50
  unfold Tryz.f50
  go_step
  go_step
  refine wp_region_lit ?_
  with_reducible refine wpList_cutAt 3 ?_
  go_wp2
  with_reducible refine CutQ.go_ (wpList_nil ?_)
  go_step
  go_step
  go_step
  refine wp_region_bare ?_
  refine wpList_abs (fun w' => Blk w' w.heap.size 45 a.cells.toArray ∧ Blk w' (w.heap.size + 1) 45 b.cells.toArray ∧ Below w.heap.size w w') ⟨bA, bB, B0⟩ ?_
  clear bA bB B0 hsz
  rintro w0 ⟨bA0, bB0, B0⟩
  simp only [List.append_eq, List.cons_append, List.nil_append, List.map_cons, List.map_nil, nubOp, bareOp]
  have a_0 := bA0.at_ (i := 0) (v := .int .i64 a.kind) rfl
  have b_0 := bB0.at_ (i := 0) (v := .int .i64 b.kind) rfl
  with_reducible refine wpList_cutAt 6 ?_
  simp only [List.take_succ_cons, List.take_zero, List.drop_succ_cons, List.drop_zero]
  repeat (first | go_values | go_skip | go_guarded | go_step | go_upon)
  with_reducible refine CutQ.go_ ?_
  clear a_0 b_0
  generalize hq0 : (a.kind == b.kind) = q0
  cases q0
  · with_reducible refine dead_end1 (n := 130) 10 4 (by kernel_rfl) (by kernel_rfl) (by kernel_rfl) ?_; intro a' fa da; (repeat go_step); (try simp only [Exit.inBlock, Exit.then]); refine bodyPost_ret (results_tmp rfl _ _ _) da ?_; exact ⟨by rw [N0.out hq0]; exact congrArg Ending.returned fa, B0⟩
  have a_1 := bA0.at_ (i := 1) (v := .int .i64 a.tick) rfl
  have b_1 := bB0.at_ (i := 1) (v := .int .i64 b.tick) rfl
  with_reducible refine wpList_cutAt 7 ?_
  simp only [List.take_succ_cons, List.take_zero, List.drop_succ_cons, List.drop_zero]
  repeat (first | go_values | go_skip | go_guarded | go_step | go_upon)
  with_reducible refine CutQ.go_ ?_
  clear a_1 b_1
  generalize hq1 : (a.tick == b.tick) = q1
  cases q1
  · with_reducible refine dead_end1 (n := 130) 17 4 (by kernel_rfl) (by kernel_rfl) (by kernel_rfl) ?_; intro a' fa da; (repeat go_step); (try simp only [Exit.inBlock, Exit.then]); refine bodyPost_ret (results_tmp rfl _ _ _) da ?_; exact ⟨by rw [N1.out hq1]; exact congrArg Ending.returned fa, B0⟩
  have a_2 := bA0.at_ (i := 2) (v := .int .i64 a.node) rfl
  have b_2 := bB0.at_ (i := 2) (v := .int .i64 b.node) rfl
  with_reducible refine wpList_cutAt 7 ?_
  simp only [List.take_succ_cons, List.take_zero, List.drop_succ_cons, List.drop_zero]
  repeat (first | go_values | go_skip | go_guarded | go_step | go_upon)
  with_reducible refine CutQ.go_ ?_
  clear a_2 b_2
  generalize hq2 : (a.node == b.node) = q2
  cases q2
  · with_reducible refine dead_end1 (n := 130) 24 4 (by kernel_rfl) (by kernel_rfl) (by kernel_rfl) ?_; intro a' fa da; (repeat go_step); (try simp only [Exit.inBlock, Exit.then]); refine bodyPost_ret (results_tmp rfl _ _ _) da ?_; exact ⟨by rw [N2.out hq2]; exact congrArg Ending.returned fa, B0⟩
  have a_3 := bA0.at_ (i := 3) (v := .int .i64 a.who) rfl
  have b_3 := bB0.at_ (i := 3) (v := .int .i64 b.who) rfl
  with_reducible refine wpList_cutAt 7 ?_
  simp only [List.take_succ_cons, List.take_zero, List.drop_succ_cons, List.drop_zero]
  repeat (first | go_values | go_skip | go_guarded | go_step | go_upon)
  with_reducible refine CutQ.go_ ?_
  clear a_3 b_3
  generalize hq3 : (a.who == b.who) = q3
  cases q3
  · with_reducible refine dead_end1 (n := 130) 31 4 (by kernel_rfl) (by kernel_rfl) (by kernel_rfl) ?_; intro a' fa da; (repeat go_step); (try simp only [Exit.inBlock, Exit.then]); refine bodyPost_ret (results_tmp rfl _ _ _) da ?_; exact ⟨by rw [N3.out hq3]; exact congrArg Ending.returned fa, B0⟩
  have a_4 := bA0.at_ (i := 4) (v := .string (bstr a.object)) rfl
  have b_4 := bB0.at_ (i := 4) (v := .string (bstr b.object)) rfl
  with_reducible refine wpList_cutAt 7 ?_
  simp only [List.take_succ_cons, List.take_zero, List.drop_succ_cons, List.drop_zero]
  repeat (first | go_values | go_skip | go_guarded | go_step | go_upon)
  with_reducible refine CutQ.go_ ?_
  clear a_4 b_4
  generalize hq4 : ((bstr a.object).toList == (bstr b.object).toList) = q4
  cases q4
  · with_reducible refine dead_end1 (n := 130) 38 4 (by kernel_rfl) (by kernel_rfl) (by kernel_rfl) ?_; intro a' fa da; (repeat go_step); (try simp only [Exit.inBlock, Exit.then]); refine bodyPost_ret (results_tmp rfl _ _ _) da ?_; exact ⟨by rw [N4.out hq4]; exact congrArg Ending.returned fa, B0⟩
  have a_5 := bA0.at_ (i := 5) (v := .bool a.req.head) rfl
  have b_5 := bB0.at_ (i := 5) (v := .bool b.req.head) rfl
  have a_6 := bA0.at_ (i := 6) (v := .string (bstr a.req.object)) rfl
  have b_6 := bB0.at_ (i := 6) (v := .string (bstr b.req.object)) rfl
  have a_7 := bA0.at_ (i := 7) (v := .slice a.req.specs.A a.req.specs.l.length a.req.specs.cap) rfl
  have b_7 := bB0.at_ (i := 7) (v := .slice b.req.specs.A b.req.specs.l.length b.req.specs.cap) rfl
  have a_8 := bA0.at_ (i := 8) (v := .slice a.req.mtch.A a.req.mtch.l.length a.req.mtch.cap) rfl
  have b_8 := bB0.at_ (i := 8) (v := .slice b.req.mtch.A b.req.mtch.l.length b.req.mtch.cap) rfl
  have a_9 := bA0.at_ (i := 9) (v := .slice a.req.non.A a.req.non.l.length a.req.non.cap) rfl
  have b_9 := bB0.at_ (i := 9) (v := .slice b.req.non.A b.req.non.l.length b.req.non.cap) rfl
  have a_10 := bA0.at_ (i := 10) (v := .bool a.req.anyM) rfl
  have b_10 := bB0.at_ (i := 10) (v := .bool b.req.anyM) rfl
  have a_11 := bA0.at_ (i := 11) (v := .bool a.req.anyN) rfl
  have b_11 := bB0.at_ (i := 11) (v := .bool b.req.anyN) rfl
  have a_12 := bA0.at_ (i := 12) (v := .int .i64 a.req.since) rfl
  have b_12 := bB0.at_ (i := 12) (v := .int .i64 b.req.since) rfl
  have a_13 := bA0.at_ (i := 13) (v := .int .i64 a.req.unless_) rfl
  have b_13 := bB0.at_ (i := 13) (v := .int .i64 b.req.unless_) rfl
  have a_14 := bA0.at_ (i := 14) (v := .string (bstr a.req.range.text)) rfl
  have b_14 := bB0.at_ (i := 14) (v := .string (bstr b.req.range.text)) rfl
  have a_15 := bA0.at_ (i := 15) (v := .bool a.req.range.weak) rfl
  have b_15 := bB0.at_ (i := 15) (v := .bool b.req.range.weak) rfl
  with_reducible refine wpList_cutAt 7 ?_
  simp only [List.take_succ_cons, List.take_zero, List.drop_succ_cons, List.drop_zero]
  go_wp2_with (go_at_call 99; refine (asked_calls _ a.req b.req (ha.req.below B0) (hb.req.below B0)).mono ?_; rintro _ w1 ⟨rfl, d1⟩; have B1 := B0.trans (d1.mono B0.size); have bA1 := bA0.below d1 bA0.lt; have bB1 := bB0.below d1 bB0.lt; clear d1 bA0 bB0 a_5 b_5 a_6 b_6 a_7 b_7 a_8 b_8 a_9 b_9 a_10 b_10 a_11 b_11 a_12 b_12 a_13 b_13 a_14 b_14 a_15 b_15)
  with_reducible refine CutQ.go_ ?_
  generalize hq5 : sm a.req.abs b.req.abs = q5
  cases q5
  · with_reducible refine dead_end1 (n := 130) 45 4 (by kernel_rfl) (by kernel_rfl) (by kernel_rfl) ?_; intro a' fa da; (repeat go_step); (try simp only [Exit.inBlock, Exit.then]); refine bodyPost_ret (results_tmp rfl _ _ _) da ?_; exact ⟨by rw [N5.out hq5]; exact congrArg Ending.returned fa, B1⟩
  have a_16 := bA1.at_ (i := 16) (v := .string (bstr a.met.tag.text)) rfl
  have b_16 := bB1.at_ (i := 16) (v := .string (bstr b.met.tag.text)) rfl
  have a_17 := bA1.at_ (i := 17) (v := .bool a.met.tag.weak) rfl
  have b_17 := bB1.at_ (i := 17) (v := .bool b.met.tag.weak) rfl
  have a_18 := bA1.at_ (i := 18) (v := .int .i64 a.met.modi) rfl
  have b_18 := bB1.at_ (i := 18) (v := .int .i64 b.met.modi) rfl
  have a_19 := bA1.at_ (i := 19) (v := .int .i64 a.met.len) rfl
  have b_19 := bB1.at_ (i := 19) (v := .int .i64 b.met.len) rfl
  have a_20 := bA1.at_ (i := 20) (v := .int .i64 a.met.have_) rfl
  have b_20 := bB1.at_ (i := 20) (v := .int .i64 b.met.have_) rfl
  have a_21 := bA1.at_ (i := 21) (v := .int .i64 a.met.fresh) rfl
  have b_21 := bB1.at_ (i := 21) (v := .int .i64 b.met.fresh) rfl
  have a_22 := bA1.at_ (i := 22) (v := .int .i64 a.met.while_) rfl
  have b_22 := bB1.at_ (i := 22) (v := .int .i64 b.met.while_) rfl
  have a_23 := bA1.at_ (i := 23) (v := .int .i64 a.met.error) rfl
  have b_23 := bB1.at_ (i := 23) (v := .int .i64 b.met.error) rfl
  have a_24 := bA1.at_ (i := 24) (v := .slice a.met.keys.A a.met.keys.l.length a.met.keys.cap) rfl
  have b_24 := bB1.at_ (i := 24) (v := .slice b.met.keys.A b.met.keys.l.length b.met.keys.cap) rfl
  have a_25 := bA1.at_ (i := 25) (v := .string (bstr a.met.tenant)) rfl
  have b_25 := bB1.at_ (i := 25) (v := .string (bstr b.met.tenant)) rfl
  have a_26 := bA1.at_ (i := 26) (v := .bool a.met.keep) rfl
  have b_26 := bB1.at_ (i := 26) (v := .bool b.met.keep) rfl
  with_reducible refine wpList_cutAt 7 ?_
  simp only [List.take_succ_cons, List.take_zero, List.drop_succ_cons, List.drop_zero]
  go_wp2_with (go_at_call 100; refine (known_calls _ a.met b.met (ha.met.below B1) (hb.met.below B1)).mono ?_; rintro _ w2 ⟨rfl, d2⟩; have B2 := B1.trans (d2.mono B1.size); have bA2 := bA1.below d2 bA1.lt; have bB2 := bB1.below d2 bB1.lt; clear d2 bA1 bB1 a_16 b_16 a_17 b_17 a_18 b_18 a_19 b_19 a_20 b_20 a_21 b_21 a_22 b_22 a_23 b_23 a_24 b_24 a_25 b_25 a_26 b_26)
  with_reducible refine CutQ.go_ ?_
  generalize hq6 : sm a.met.abs b.met.abs = q6
  cases q6
  · with_reducible refine dead_end1 (n := 130) 52 4 (by kernel_rfl) (by kernel_rfl) (by kernel_rfl) ?_; intro a' fa da; (repeat go_step); (try simp only [Exit.inBlock, Exit.then]); refine bodyPost_ret (results_tmp rfl _ _ _) da ?_; exact ⟨by rw [N6.out hq6]; exact congrArg Ending.returned fa, B2⟩
  have a_27 := bA2.at_ (i := 27) (v := .int .i64 a.ans.status) rfl
  have b_27 := bB2.at_ (i := 27) (v := .int .i64 b.ans.status) rfl
  have a_28 := bA2.at_ (i := 28) (v := .slice a.ans.fields.A a.ans.fields.l.length a.ans.fields.cap) rfl
  have b_28 := bB2.at_ (i := 28) (v := .slice b.ans.fields.A b.ans.fields.l.length b.ans.fields.cap) rfl
  have a_29 := bA2.at_ (i := 29) (v := .slice a.ans.parts.A a.ans.parts.l.length a.ans.parts.cap) rfl
  have b_29 := bB2.at_ (i := 29) (v := .slice b.ans.parts.A b.ans.parts.l.length b.ans.parts.cap) rfl
  have a_30 := bA2.at_ (i := 30) (v := .int .i64 a.ans.size) rfl
  have b_30 := bB2.at_ (i := 30) (v := .int .i64 b.ans.size) rfl
  with_reducible refine wpList_cutAt 7 ?_
  simp only [List.take_succ_cons, List.take_zero, List.drop_succ_cons, List.drop_zero]
  go_wp2_with (go_at_call 101; refine (answered_calls _ a.ans b.ans (ha.ans.below B2) (hb.ans.below B2)).mono ?_; rintro _ w3 ⟨rfl, d3⟩; have B3 := B2.trans (d3.mono B2.size); have bA3 := bA2.below d3 bA2.lt; have bB3 := bB2.below d3 bB2.lt; clear d3 bA2 bB2 a_27 b_27 a_28 b_28 a_29 b_29 a_30 b_30)
  with_reducible refine CutQ.go_ ?_
  generalize hq7 : sm a.ans.abs b.ans.abs = q7
  cases q7
  · with_reducible refine dead_end1 (n := 130) 59 4 (by kernel_rfl) (by kernel_rfl) (by kernel_rfl) ?_; intro a' fa da; (repeat go_step); (try simp only [Exit.inBlock, Exit.then]); refine bodyPost_ret (results_tmp rfl _ _ _) da ?_; exact ⟨by rw [N7.out hq7]; exact congrArg Ending.returned fa, B3⟩
  have a_31 := bA3.at_ (i := 31) (v := .string (bstr a.fet.object)) rfl
  have b_31 := bB3.at_ (i := 31) (v := .string (bstr b.fet.object)) rfl
  have a_32 := bA3.at_ (i := 32) (v := .int .i64 a.fet.span.frm) rfl
  have b_32 := bB3.at_ (i := 32) (v := .int .i64 b.fet.span.frm) rfl
  have a_33 := bA3.at_ (i := 33) (v := .int .i64 a.fet.span.to) rfl
  have b_33 := bB3.at_ (i := 33) (v := .int .i64 b.fet.span.to) rfl
  have a_34 := bA3.at_ (i := 34) (v := .string (bstr a.fet.mtch.text)) rfl
  have b_34 := bB3.at_ (i := 34) (v := .string (bstr b.fet.mtch.text)) rfl
  have a_35 := bA3.at_ (i := 35) (v := .bool a.fet.mtch.weak) rfl
  have b_35 := bB3.at_ (i := 35) (v := .bool b.fet.mtch.weak) rfl
  have a_36 := bA3.at_ (i := 36) (v := .string (bstr a.fet.non.text)) rfl
  have b_36 := bB3.at_ (i := 36) (v := .string (bstr b.fet.non.text)) rfl
  have a_37 := bA3.at_ (i := 37) (v := .bool a.fet.non.weak) rfl
  have b_37 := bB3.at_ (i := 37) (v := .bool b.fet.non.weak) rfl
  with_reducible refine wpList_cutAt 4 ?_
  simp only [List.take_succ_cons, List.take_zero, List.drop_succ_cons, List.drop_zero]
  repeat (first | go_values | go_skip | go_guarded | go_step | go_upon)
  with_reducible refine CutQ.go_ (wpList_one (by kernel_rfl) (fun K hK => ?_))
  with_reducible refine fet_eql (x := .tmp 61) (y := .tmp 63) a.fet b.fet (by kernel_rfl) (by kernel_rfl) (by kernel_rfl) (hK _ _ ?_)
  clear hK K
  with_reducible refine wpList_cutAt 2 ?_
  simp only [List.take_succ_cons, List.take_zero, List.drop_succ_cons, List.drop_zero]
  repeat (first | go_values | go_skip | go_guarded | go_step | go_upon)
  with_reducible refine CutQ.go_ ?_
  clear a_31 b_31 a_32 b_32 a_33 b_33 a_34 b_34 a_35 b_35 a_36 b_36 a_37 b_37
  generalize hq8 : sm a.fet b.fet = q8
  cases q8
  · with_reducible refine dead_end1 (n := 130) 66 4 (by kernel_rfl) (by kernel_rfl) (by kernel_rfl) ?_; intro a' fa da; (repeat go_step); (try simp only [Exit.inBlock, Exit.then]); refine bodyPost_ret (results_tmp rfl _ _ _) da ?_; exact ⟨by rw [N8.out hq8]; exact congrArg Ending.returned fa, B3⟩
  have a_38 := bA3.at_ (i := 38) (v := .int .i64 a.rep.status) rfl
  have b_38 := bB3.at_ (i := 38) (v := .int .i64 b.rep.status) rfl
  with_reducible refine wpList_cutAt 9 ?_
  simp only [List.take_succ_cons, List.take_zero, List.drop_succ_cons, List.drop_zero]
  repeat (first | go_values | go_skip | go_guarded | go_step | go_upon)
  with_reducible refine CutQ.go_ ?_
  clear a_38 b_38
  generalize hq9 : (a.rep.status == b.rep.status) = q9
  cases q9
  · with_reducible refine dead_end1 (n := 130) 75 4 (by kernel_rfl) (by kernel_rfl) (by kernel_rfl) ?_; intro a' fa da; (repeat go_step); (try simp only [Exit.inBlock, Exit.then]); refine bodyPost_ret (results_tmp rfl _ _ _) da ?_; exact ⟨by rw [N9.out hq9]; exact congrArg Ending.returned fa, B3⟩
  have a_39 := bA3.at_ (i := 39) (v := .string (bstr a.rep.met.tag.text)) rfl
  have b_39 := bB3.at_ (i := 39) (v := .string (bstr b.rep.met.tag.text)) rfl
  have a_40 := bA3.at_ (i := 40) (v := .bool a.rep.met.tag.weak) rfl
  have b_40 := bB3.at_ (i := 40) (v := .bool b.rep.met.tag.weak) rfl
  have a_41 := bA3.at_ (i := 41) (v := .int .i64 a.rep.met.modi) rfl
  have b_41 := bB3.at_ (i := 41) (v := .int .i64 b.rep.met.modi) rfl
  have a_42 := bA3.at_ (i := 42) (v := .int .i64 a.rep.met.len) rfl
  have b_42 := bB3.at_ (i := 42) (v := .int .i64 b.rep.met.len) rfl
  have a_43 := bA3.at_ (i := 43) (v := .int .i64 a.rep.met.have_) rfl
  have b_43 := bB3.at_ (i := 43) (v := .int .i64 b.rep.met.have_) rfl
  have a_44 := bA3.at_ (i := 44) (v := .int .i64 a.rep.met.fresh) rfl
  have b_44 := bB3.at_ (i := 44) (v := .int .i64 b.rep.met.fresh) rfl
  have a_45 := bA3.at_ (i := 45) (v := .int .i64 a.rep.met.while_) rfl
  have b_45 := bB3.at_ (i := 45) (v := .int .i64 b.rep.met.while_) rfl
  have a_46 := bA3.at_ (i := 46) (v := .int .i64 a.rep.met.error) rfl
  have b_46 := bB3.at_ (i := 46) (v := .int .i64 b.rep.met.error) rfl
  have a_47 := bA3.at_ (i := 47) (v := .slice a.rep.met.keys.A a.rep.met.keys.l.length a.rep.met.keys.cap) rfl
  have b_47 := bB3.at_ (i := 47) (v := .slice b.rep.met.keys.A b.rep.met.keys.l.length b.rep.met.keys.cap) rfl
  have a_48 := bA3.at_ (i := 48) (v := .string (bstr a.rep.met.tenant)) rfl
  have b_48 := bB3.at_ (i := 48) (v := .string (bstr b.rep.met.tenant)) rfl
  have a_49 := bA3.at_ (i := 49) (v := .bool a.rep.met.keep) rfl
  have b_49 := bB3.at_ (i := 49) (v := .bool b.rep.met.keep) rfl
  with_reducible refine wpList_cutAt 9 ?_
  simp only [List.take_succ_cons, List.take_zero, List.drop_succ_cons, List.drop_zero]
  go_wp2_with (go_at_call 100; refine (known_calls _ a.rep.met b.rep.met (ha.rep.met.below B3) (hb.rep.met.below B3)).mono ?_; rintro _ w4 ⟨rfl, d4⟩; have B4 := B3.trans (d4.mono B3.size); have bA4 := bA3.below d4 bA3.lt; have bB4 := bB3.below d4 bB3.lt; clear d4 bA3 bB3 a_39 b_39 a_40 b_40 a_41 b_41 a_42 b_42 a_43 b_43 a_44 b_44 a_45 b_45 a_46 b_46 a_47 b_47 a_48 b_48 a_49 b_49)
  with_reducible refine CutQ.go_ ?_
  generalize hq10 : sm a.rep.met.abs b.rep.met.abs = q10
  cases q10
  · with_reducible refine dead_end1 (n := 130) 84 4 (by kernel_rfl) (by kernel_rfl) (by kernel_rfl) ?_; intro a' fa da; (repeat go_step); (try simp only [Exit.inBlock, Exit.then]); refine bodyPost_ret (results_tmp rfl _ _ _) da ?_; exact ⟨by rw [N10.out hq10]; exact congrArg Ending.returned fa, B4⟩
  have a_50 := bA4.at_ (i := 50) (v := .int .i64 a.rep.span.frm) rfl
  have b_50 := bB4.at_ (i := 50) (v := .int .i64 b.rep.span.frm) rfl
  have a_51 := bA4.at_ (i := 51) (v := .int .i64 a.rep.span.to) rfl
  have b_51 := bB4.at_ (i := 51) (v := .int .i64 b.rep.span.to) rfl
  with_reducible refine wpList_cutAt 6 ?_
  simp only [List.take_succ_cons, List.take_zero, List.drop_succ_cons, List.drop_zero]
  repeat (first | go_values | go_skip | go_guarded | go_step | go_upon)
  with_reducible refine CutQ.go_ (wpList_one (by kernel_rfl) (fun K hK => ?_))
  with_reducible refine spn_eql (x := .tmp 87) (y := .tmp 90) a.rep.span b.rep.span (by kernel_rfl) (by kernel_rfl) (by kernel_rfl) (hK _ _ ?_)
  clear hK K
  with_reducible refine wpList_cutAt 2 ?_
  simp only [List.take_succ_cons, List.take_zero, List.drop_succ_cons, List.drop_zero]
  repeat (first | go_values | go_skip | go_guarded | go_step | go_upon)
  with_reducible refine CutQ.go_ ?_
  clear a_50 b_50 a_51 b_51
  generalize hq11 : sm a.rep.span b.rep.span = q11
  cases q11
  · with_reducible refine dead_end1 (n := 130) 93 4 (by kernel_rfl) (by kernel_rfl) (by kernel_rfl) ?_; intro a' fa da; (repeat go_step); (try simp only [Exit.inBlock, Exit.then]); refine bodyPost_ret (results_tmp rfl _ _ _) da ?_; exact ⟨by rw [N11.out hq11]; exact congrArg Ending.returned fa, B4⟩
  have a_52 := bA4.at_ (i := 52) (v := .int .i64 a.rep.age) rfl
  have b_52 := bB4.at_ (i := 52) (v := .int .i64 b.rep.age) rfl
  with_reducible refine wpList_cutAt 9 ?_
  simp only [List.take_succ_cons, List.take_zero, List.drop_succ_cons, List.drop_zero]
  repeat (first | go_values | go_skip | go_guarded | go_step | go_upon)
  with_reducible refine CutQ.go_ ?_
  clear a_52 b_52
  generalize hq12 : (a.rep.age == b.rep.age) = q12
  cases q12
  · with_reducible refine dead_end1 (n := 130) 102 4 (by kernel_rfl) (by kernel_rfl) (by kernel_rfl) ?_; intro a' fa da; (repeat go_step); (try simp only [Exit.inBlock, Exit.then]); refine bodyPost_ret (results_tmp rfl _ _ _) da ?_; exact ⟨by rw [N12.out hq12]; exact congrArg Ending.returned fa, B4⟩
  have a_53 := bA4.at_ (i := 53) (v := .slice a.bytes.A a.bytes.l.length a.bytes.cap) rfl
  have b_53 := bB4.at_ (i := 53) (v := .slice b.bytes.A b.bytes.l.length b.bytes.cap) rfl
  with_reducible refine wpList_cutAt 7 ?_
  simp only [List.take_succ_cons, List.take_zero, List.drop_succ_cons, List.drop_zero]
  go_wp2_with (go_at_call 102; refine (eqbytes_calls _ _ _ _ _ _ _ (ha.bytes.rv.below B4) (hb.bytes.rv.below B4) (Nat.le_trans ha.bytes.le ha.bytes.cap)).mono ?_; rintro _ w5 ⟨rfl, d5⟩; have B5 := B4.trans (d5.mono B4.size); have bA5 := bA4.below d5 bA4.lt; have bB5 := bB4.below d5 bB4.lt; clear d5 bA4 bB4 a_53 b_53)
  with_reducible refine CutQ.go_ ?_
  generalize hq13 : sm a.bytes.l b.bytes.l = q13
  cases q13
  · with_reducible refine dead_end1 (n := 130) 109 4 (by kernel_rfl) (by kernel_rfl) (by kernel_rfl) ?_; intro a' fa da; (repeat go_step); (try simp only [Exit.inBlock, Exit.then]); refine bodyPost_ret (results_tmp rfl _ _ _) da ?_; exact ⟨by rw [N13.out hq13]; exact congrArg Ending.returned fa, B5⟩
  have a_54 := bA5.at_ (i := 54) (v := .slice a.keys.A a.keys.l.length a.keys.cap) rfl
  have b_54 := bB5.at_ (i := 54) (v := .slice b.keys.A b.keys.l.length b.keys.cap) rfl
  with_reducible refine wpList_cutAt 7 ?_
  simp only [List.take_succ_cons, List.take_zero, List.drop_succ_cons, List.drop_zero]
  go_wp2_with (go_at_call 103; refine (eqtexts_calls _ _ _ _ _ _ _ (ha.keys.rv.below B5) (hb.keys.rv.below B5) (Nat.le_trans ha.keys.le ha.keys.cap)).mono ?_; rintro _ w6 ⟨rfl, d6⟩; have B6 := B5.trans (d6.mono B5.size); have bA6 := bA5.below d6 bA5.lt; have bB6 := bB5.below d6 bB5.lt; clear d6 bA5 bB5 a_54 b_54)
  with_reducible refine CutQ.go_ ?_
  generalize hq14 : sm a.keys.l b.keys.l = q14
  cases q14
  · with_reducible refine dead_end1 (n := 130) 116 4 (by kernel_rfl) (by kernel_rfl) (by kernel_rfl) ?_; intro a' fa da; (repeat go_step); (try simp only [Exit.inBlock, Exit.then]); refine bodyPost_ret (results_tmp rfl _ _ _) da ?_; exact ⟨by rw [N14.out hq14]; exact congrArg Ending.returned fa, B6⟩
  have a_55 := bA6.at_ (i := 55) (v := .bool a.hard) rfl
  have b_55 := bB6.at_ (i := 55) (v := .bool b.hard) rfl
  with_reducible refine wpList_cutAt 7 ?_
  simp only [List.take_succ_cons, List.take_zero, List.drop_succ_cons, List.drop_zero]
  repeat (first | go_values | go_skip | go_guarded | go_step | go_upon)
  with_reducible refine CutQ.go_ ?_
  clear a_55 b_55
  generalize hq15 : (a.hard == b.hard) = q15
  cases q15
  · with_reducible refine dead_end1 (n := 130) 123 4 (by kernel_rfl) (by kernel_rfl) (by kernel_rfl) ?_; intro a' fa da; (repeat go_step); (try simp only [Exit.inBlock, Exit.then]); refine bodyPost_ret (results_tmp rfl _ _ _) da ?_; exact ⟨by rw [N15.out hq15]; exact congrArg Ending.returned fa, B6⟩
  have a_56 := bA6.at_ (i := 56) (v := .bool a.whole) rfl
  have b_56 := bB6.at_ (i := 56) (v := .bool b.whole) rfl
  repeat (first | go_values | go_skip | go_guarded | go_step | go_upon)
  go_ret
  cases hq16 : (a.whole == b.whole)
  · exact ⟨by rw [N16.out hq16]; simp, B6⟩
  · exact ⟨by rw [NT.out hq0 hq1 hq2 hq3 hq4 hq5 hq6 hq7 hq8 hq9 hq10 hq11 hq12 hq13 hq14 hq15 hq16]; simp, B6⟩
end Go.Proofs.YtiokbebodblhaaaGreatDoor
