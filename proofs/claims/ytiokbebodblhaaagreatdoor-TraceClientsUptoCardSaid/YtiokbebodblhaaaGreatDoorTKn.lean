/-
  Two structs of the program compared: what '==' of them says.
-/
import Derived.Test.YtiokbebodblhaaaGreatDoorTWri
import Derived.Test.YtiokbebodblhaaaGreatDoorTraceEqT
namespace Go.Proofs.YtiokbebodblhaaaGreatDoor
open Go.RowKit TraceP

/-- What two fetches' cells say of each other. -/
def FetCmp (a b : Fet) : Prop :=
  ((((bstr a.object).toList = (bstr b.object).toList) = True ∧ (a.span.frm = b.span.frm) = True ∧ (a.span.to = b.span.to) = True ∧ ((bstr a.mtch.text).toList = (bstr b.mtch.text).toList) = True ∧ (a.mtch.weak = b.mtch.weak) = True ∧ ((bstr a.non.text).toList = (bstr b.non.text).toList) = True ∧ (a.non.weak = b.non.weak) = True) ∧ Hid (a = b)) ∨
  (((((bstr a.object).toList = (bstr b.object).toList) = False) ∨ ((((bstr a.object).toList = (bstr b.object).toList) = True) ∧ (a.span.frm = b.span.frm) = False) ∨ ((((bstr a.object).toList = (bstr b.object).toList) = True) ∧ (a.span.frm = b.span.frm) = True ∧ (a.span.to = b.span.to) = False) ∨
    ((((bstr a.object).toList = (bstr b.object).toList) = True) ∧ (a.span.frm = b.span.frm) = True ∧ (a.span.to = b.span.to) = True ∧ ((bstr a.mtch.text).toList = (bstr b.mtch.text).toList) = False) ∨
    ((((bstr a.object).toList = (bstr b.object).toList) = True) ∧ (a.span.frm = b.span.frm) = True ∧ (a.span.to = b.span.to) = True ∧ ((bstr a.mtch.text).toList = (bstr b.mtch.text).toList) = True ∧ (a.mtch.weak = b.mtch.weak) = False) ∨
    ((((bstr a.object).toList = (bstr b.object).toList) = True) ∧ (a.span.frm = b.span.frm) = True ∧ (a.span.to = b.span.to) = True ∧ ((bstr a.mtch.text).toList = (bstr b.mtch.text).toList) = True ∧ (a.mtch.weak = b.mtch.weak) = True ∧ ((bstr a.non.text).toList = (bstr b.non.text).toList) = False) ∨
    ((((bstr a.object).toList = (bstr b.object).toList) = True) ∧ (a.span.frm = b.span.frm) = True ∧ (a.span.to = b.span.to) = True ∧ ((bstr a.mtch.text).toList = (bstr b.mtch.text).toList) = True ∧ (a.mtch.weak = b.mtch.weak) = True ∧ ((bstr a.non.text).toList = (bstr b.non.text).toList) = True ∧ (a.non.weak = b.non.weak) = False)) ∧ Hid (a ≠ b))
theorem fet_cmp (a b : Fet) : FetCmp a b := by
  obtain ⟨a1, ⟨a2, a3⟩, ⟨a4, a5⟩, ⟨a6, a7⟩⟩ := a
  obtain ⟨b1, ⟨b2, b3⟩, ⟨b4, b5⟩, ⟨b6, b7⟩⟩ := b
  unfold FetCmp
  simp only [bstr_list]
  by_cases h1 : a1 = b1
  · subst h1
    by_cases h2 : a2 = b2
    · subst h2
      by_cases h3 : a3 = b3
      · subst h3
        by_cases h4 : a4 = b4
        · subst h4
          by_cases h5 : a5 = b5
          · subst h5
            by_cases h6 : a6 = b6
            · subst h6
              by_cases h7 : a7 = b7
              · subst h7
                exact .inl ⟨⟨eq_true rfl, eq_true rfl, eq_true rfl, eq_true rfl, eq_true rfl, eq_true rfl, eq_true rfl⟩, rfl⟩
              · exact .inr ⟨.inr (.inr (.inr (.inr (.inr (.inr ⟨eq_true rfl, eq_true rfl, eq_true rfl, eq_true rfl, eq_true rfl, eq_true rfl, eq_false h7⟩))))), fun e => h7 (congrArg (fun z => z.non.weak) e)⟩
            · exact .inr ⟨.inr (.inr (.inr (.inr (.inr (.inl ⟨eq_true rfl, eq_true rfl, eq_true rfl, eq_true rfl, eq_true rfl, eq_false h6⟩))))), fun e => h6 (congrArg (fun z => z.non.text) e)⟩
          · exact .inr ⟨.inr (.inr (.inr (.inr (.inl ⟨eq_true rfl, eq_true rfl, eq_true rfl, eq_true rfl, eq_false h5⟩)))), fun e => h5 (congrArg (fun z => z.mtch.weak) e)⟩
        · exact .inr ⟨.inr (.inr (.inr (.inl ⟨eq_true rfl, eq_true rfl, eq_true rfl, eq_false h4⟩))), fun e => h4 (congrArg (fun z => z.mtch.text) e)⟩
      · exact .inr ⟨.inr (.inr (.inl ⟨eq_true rfl, eq_true rfl, eq_false h3⟩)), fun e => h3 (congrArg (fun z => z.span.to) e)⟩
    · exact .inr ⟨.inr (.inl ⟨eq_true rfl, eq_false h2⟩), fun e => h2 (congrArg (fun z => z.span.frm) e)⟩
  · exact .inr ⟨.inl (eq_false h1), fun e => h1 (congrArg (fun z => z.object) e)⟩
def SpnCmp (a b : Spn) : Prop := (((a.frm = b.frm) = True ∧ (a.to = b.to) = True) ∧ Hid (a = b)) ∨ (((a.frm = b.frm) = False ∨ ((a.frm = b.frm) = True ∧ (a.to = b.to) = False)) ∧ Hid (a ≠ b))
theorem spn_cmp (a b : Spn) : SpnCmp a b := by
  obtain ⟨a2, a3⟩ := a
  obtain ⟨b2, b3⟩ := b
  unfold SpnCmp
  by_cases h2 : a2 = b2
  · subst h2
    by_cases h3 : a3 = b3
    · subst h3
      exact .inl ⟨⟨eq_true rfl, eq_true rfl⟩, rfl⟩
    · exact .inr ⟨.inr ⟨eq_true rfl, eq_false h3⟩, fun e => h3 (congrArg (fun z => z.to) e)⟩
  · exact .inr ⟨.inl (eq_false h2), fun e => h2 (congrArg (fun z => z.frm) e)⟩
set_option maxRecDepth 100000 in
theorem fet_eql {o : Oper} {x y : Operand} {a : Act} {w : World} {K : Act → World → Prop} {Q : Exit → Act → World → Prop} (f g : Fet) (hop : o.op = .binOp .eql 40 x y 40) (hx : a.eval x = .agg #[.string (bstr f.object), .int .i64 f.span.frm, .int .i64 f.span.to, .string (bstr f.mtch.text), .bool f.mtch.weak, .string (bstr f.non.text), .bool f.non.weak])
    (hy : a.eval y = .agg #[.string (bstr g.object), .int .i64 g.span.frm, .int .i64 g.span.to, .string (bstr g.mtch.text), .bool g.mtch.weak, .string (bstr g.non.text), .bool g.non.weak]) (h : K (a.put o.dst (.bool (sm f g))) w) : o.wp Tryz.prog a w K Q := by
  unfold Oper.wp execOp
  simp only [hop, hx, hy]
  rcases fet_cmp f g with ⟨⟨p1, p2, p3, p4, p5, p6, p7⟩, t8⟩ | ⟨p1 | ⟨p1, p2⟩ | ⟨p1, p2, p3⟩ | ⟨p1, p2, p3, p4⟩ | ⟨p1, p2, p3, p4, p5⟩ | ⟨p1, p2, p3, p4, p5, p6⟩ | ⟨p1, p2, p3, p4, p5, p6, p7⟩, n8⟩
  · rw [sm_true t8.out] at h
    go_simp
    exact h
  all_goals (rw [sm_false n8.out] at h; go_simp; exact h)
set_option maxRecDepth 100000 in
theorem spn_eql {o : Oper} {x y : Operand} {a : Act} {w : World} {K : Act → World → Prop} {Q : Exit → Act → World → Prop} (f g : Spn) (hop : o.op = .binOp .eql 38 x y 38) (hx : a.eval x = .agg #[.int .i64 f.frm, .int .i64 f.to])
    (hy : a.eval y = .agg #[.int .i64 g.frm, .int .i64 g.to]) (h : K (a.put o.dst (.bool (sm f g))) w) : o.wp Tryz.prog a w K Q := by
  unfold Oper.wp execOp
  simp only [hop, hx, hy]
  rcases spn_cmp f g with ⟨⟨p1, p2⟩, t8⟩ | ⟨p1 | ⟨p1, p2⟩, n8⟩
  · rw [sm_true t8.out] at h
    go_simp
    exact h
  all_goals (rw [sm_false n8.out] at h; go_simp; exact h)
set_option maxRecDepth 100000 in
theorem tag_eql {o : Oper} {x y : Operand} {a : Act} {w : World} {K : Act → World → Prop} {Q : Exit → Act → World → Prop} (f g : Tag) (hop : o.op = .binOp .eql 25 x y 25) (hx : a.eval x = .agg #[.string (bstr f.text), .bool f.weak])
    (hy : a.eval y = .agg #[.string (bstr g.text), .bool g.weak]) (h : K (a.put o.dst (.bool (sm f g))) w) : o.wp Tryz.prog a w K Q := by
  unfold Oper.wp execOp
  simp only [hop, hx, hy]
  obtain ⟨f1, f2⟩ := f
  obtain ⟨g1, g2⟩ := g
  by_cases e1 : f1 = g1
  · by_cases e2 : f2 = g2
    · rw [sm_true (by rw [e1, e2])] at h
      subst e1 e2
      go_simp
      exact h
    · rw [sm_false (fun e => e2 (by injection e))] at h
      subst e1
      have e2' := eq_false e2
      go_simp
      exact h
  · rw [sm_false (fun e => e1 (by injection e))] at h
    have e1' : ((bstr f1).toList = (bstr g1).toList) = False := by simpa only [bstr_list] using eq_false e1
    go_simp
    exact h
end Go.Proofs.YtiokbebodblhaaaGreatDoor
namespace Go.Proofs.YtiokbebodblhaaaGreatDoor
open Go.RowKit TraceP

set_option maxRecDepth 100000 in
set_option maxHeartbeats 6400000 in
theorem answered_calls (w : World) (a b : AnsR) (ha : AnsOK w a) (hb : AnsOK w b) :
    Calls Tryz.prog 101 #[.agg #[.int .i64 a.status, .slice a.fields.A a.fields.l.length a.fields.cap, .slice a.parts.A a.parts.l.length a.parts.cap, .int .i64 a.size], .agg #[.int .i64 b.status, .slice b.fields.A b.fields.l.length b.fields.cap, .slice b.parts.A b.parts.l.length b.parts.cap, .int .i64 b.size]] w fun e w' => e = .returned (.bool (sm a.abs b.abs)) ∧ Below w.heap.size w w' := by
  have B0 := (below_new w (.cells #[.int .i64 a.status, .slice a.fields.A a.fields.l.length a.fields.cap, .slice a.parts.A a.parts.l.length a.parts.cap, .int .i64 a.size] 36)).trans ((below_new (w.alloc (.cells #[.int .i64 a.status, .slice a.fields.A a.fields.l.length a.fields.cap, .slice a.parts.A a.parts.l.length a.parts.cap, .int .i64 a.size] 36)) (.cells #[.int .i64 b.status, .slice b.fields.A b.fields.l.length b.fields.cap, .slice b.parts.A b.parts.l.length b.parts.cap, .int .i64 b.size] 36)).mono (by simp))
  have bA := (Blk.new w 36 #[.int .i64 a.status, .slice a.fields.A a.fields.l.length a.fields.cap, .slice a.parts.A a.parts.l.length a.parts.cap, .int .i64 a.size]).alloc (.cells #[.int .i64 b.status, .slice b.fields.A b.fields.l.length b.fields.cap, .slice b.parts.A b.parts.l.length b.parts.cap, .int .i64 b.size] 36)
  have bB := Blk.new (w.alloc (.cells #[.int .i64 a.status, .slice a.fields.A a.fields.l.length a.fields.cap, .slice a.parts.A a.parts.l.length a.parts.cap, .int .i64 a.size] 36)) 36 #[.int .i64 b.status, .slice b.fields.A b.fields.l.length b.fields.cap, .slice b.parts.A b.parts.l.length b.parts.cap, .int .i64 b.size]
  have hsz : (w.alloc (.cells #[.int .i64 a.status, .slice a.fields.A a.fields.l.length a.fields.cap, .slice a.parts.A a.parts.l.length a.parts.cap, .int .i64 a.size] 36)).heap.size = w.heap.size + 1 := by simp
  rw [hsz] at bB
  have N0 : Hid ((a.status == b.status) = false → sm a.abs b.abs = false) := fun hq => sm_false (fun e => (show ¬ a.status = b.status from by intro h; rw [h] at hq; simp at hq) (by have := congrArg (fun z => z.status) e; exact this))
  have N1 : Hid (sm a.fields.l b.fields.l = false → sm a.abs b.abs = false) := fun hq => sm_false (fun e => (show ¬ a.fields.l = b.fields.l from by intro h; rw [sm_true h] at hq; cases hq) (by have := congrArg (fun z => z.fields) e; exact this))
  have N2 : Hid (sm a.parts.l b.parts.l = false → sm a.abs b.abs = false) := fun hq => sm_false (fun e => (show ¬ a.parts.l = b.parts.l from by intro h; rw [sm_true h] at hq; cases hq) (by have := congrArg (fun z => z.parts) e; exact this))
  have N3 : Hid ((a.size == b.size) = false → sm a.abs b.abs = false) := fun hq => sm_false (fun e => (show ¬ a.size = b.size from by intro h; rw [h] at hq; simp at hq) (by have := congrArg (fun z => z.size) e; exact this))
  have NT : Hid ((a.status == b.status) = true → sm a.fields.l b.fields.l = true → sm a.parts.l b.parts.l = true → (a.size == b.size) = true → sm a.abs b.abs = true) := by
    intro h0 h1 h2 h3
    refine sm_true ?_
    unfold AnsR.abs
    rw [show a.status = b.status from (beq_iff_eq.1 h0), show a.fields.l = b.fields.l from ((sm_iff _ _).1 h1), show a.parts.l = b.parts.l from ((sm_iff _ _).1 h2), show a.size = b.size from (beq_iff_eq.1 h3)]
  go_enter Tryz.func101, Tryz.ntmps101
  unfold Tryz.f101
  go_step
  go_step
  refine wp_region_lit ?_
  with_reducible refine wpList_cutAt 3 ?_
  go_wp2
  with_reducible refine CutQ.go_ (wpList_nil ?_)
  go_step
  go_step
  go_step
  with_reducible refine wp_region_bare ?_
  with_reducible refine wpList_abs (fun w' => Blk w' w.heap.size 36 #[.int .i64 a.status, .slice a.fields.A a.fields.l.length a.fields.cap, .slice a.parts.A a.parts.l.length a.parts.cap, .int .i64 a.size] ∧ Blk w' (w.heap.size + 1) 36 #[.int .i64 b.status, .slice b.fields.A b.fields.l.length b.fields.cap, .slice b.parts.A b.parts.l.length b.parts.cap, .int .i64 b.size] ∧ Below w.heap.size w w') ⟨bA, bB, B0⟩ ?_
  clear bA bB B0 hsz
  rintro w0 ⟨bA0, bB0, B0⟩
  simp only [List.map_cons, List.map_nil, nubOp, bareOp]
  have a_0 := bA0.at_ (i := 0) (v := .int .i64 a.status) rfl
  have b_0 := bB0.at_ (i := 0) (v := .int .i64 b.status) rfl
  with_reducible refine wpList_cutAt 6 ?_
  simp only [List.take_succ_cons, List.take_zero, List.drop_succ_cons, List.drop_zero]
  repeat (first | go_values | go_skip | go_guarded | go_step | go_upon)
  with_reducible refine CutQ.go_ ?_
  clear a_0 b_0
  generalize hq0 : (a.status == b.status) = q0
  cases q0
  · with_reducible refine dead_end1 (n := 31) 10 4 (by kernel_rfl) (by kernel_rfl) (by kernel_rfl) ?_; intro a' fa da; (repeat go_step); (try simp only [Exit.inBlock, Exit.then]); refine bodyPost_ret (results_tmp rfl _ _ _) da ?_; exact ⟨by rw [N0.out hq0]; exact congrArg Ending.returned fa, B0⟩
  have a_1 := bA0.at_ (i := 1) (v := .slice a.fields.A a.fields.l.length a.fields.cap) rfl
  have b_1 := bB0.at_ (i := 1) (v := .slice b.fields.A b.fields.l.length b.fields.cap) rfl
  with_reducible refine wpList_cutAt 7 ?_
  simp only [List.take_succ_cons, List.take_zero, List.drop_succ_cons, List.drop_zero]
  go_wp2_with (go_at_call 138; refine (eqflds_calls _ _ _ _ _ _ _ (ha.fields.rv.below B0) (hb.fields.rv.below B0) (Nat.le_trans ha.fields.le ha.fields.cap)).mono ?_; rintro _ w1 ⟨rfl, d1⟩; have B1 := B0.trans (d1.mono B0.size); have bA1 := bA0.below d1 bA0.lt; have bB1 := bB0.below d1 bB0.lt; clear d1 bA0 bB0 a_1 b_1)
  with_reducible refine CutQ.go_ ?_
  generalize hq1 : sm a.fields.l b.fields.l = q1
  cases q1
  · with_reducible refine dead_end1 (n := 31) 17 4 (by kernel_rfl) (by kernel_rfl) (by kernel_rfl) ?_; intro a' fa da; (repeat go_step); (try simp only [Exit.inBlock, Exit.then]); refine bodyPost_ret (results_tmp rfl _ _ _) da ?_; exact ⟨by rw [N1.out hq1]; exact congrArg Ending.returned fa, B1⟩
  have a_2 := bA1.at_ (i := 2) (v := .slice a.parts.A a.parts.l.length a.parts.cap) rfl
  have b_2 := bB1.at_ (i := 2) (v := .slice b.parts.A b.parts.l.length b.parts.cap) rfl
  with_reducible refine wpList_cutAt 7 ?_
  simp only [List.take_succ_cons, List.take_zero, List.drop_succ_cons, List.drop_zero]
  go_wp2_with (go_at_call 139; refine (eqprts_calls _ _ _ _ _ _ _ (ha.parts.rv.below B1) (hb.parts.rv.below B1) (Nat.le_trans ha.parts.le ha.parts.cap)).mono ?_; rintro _ w2 ⟨rfl, d2⟩; have B2 := B1.trans (d2.mono B1.size); have bA2 := bA1.below d2 bA1.lt; have bB2 := bB1.below d2 bB1.lt; clear d2 bA1 bB1 a_2 b_2)
  with_reducible refine CutQ.go_ ?_
  generalize hq2 : sm a.parts.l b.parts.l = q2
  cases q2
  · with_reducible refine dead_end1 (n := 31) 24 4 (by kernel_rfl) (by kernel_rfl) (by kernel_rfl) ?_; intro a' fa da; (repeat go_step); (try simp only [Exit.inBlock, Exit.then]); refine bodyPost_ret (results_tmp rfl _ _ _) da ?_; exact ⟨by rw [N2.out hq2]; exact congrArg Ending.returned fa, B2⟩
  have a_3 := bA2.at_ (i := 3) (v := .int .i64 a.size) rfl
  have b_3 := bB2.at_ (i := 3) (v := .int .i64 b.size) rfl
  repeat (first | go_values | go_skip | go_guarded | go_step | go_upon)
  go_ret
  cases hq3 : (a.size == b.size)
  · exact ⟨by rw [N3.out hq3]; simp, B2⟩
  · exact ⟨by rw [NT.out hq0 hq1 hq2 hq3]; simp, B2⟩
set_option maxRecDepth 100000 in
set_option maxHeartbeats 6400000 in
theorem known_calls (w : World) (a b : MetR) (ha : MetOK w a) (hb : MetOK w b) :
    Calls Tryz.prog 100 #[.agg #[.string (bstr a.tag.text), .bool a.tag.weak, .int .i64 a.modi, .int .i64 a.len, .int .i64 a.have_, .int .i64 a.fresh, .int .i64 a.while_, .int .i64 a.error, .slice a.keys.A a.keys.l.length a.keys.cap, .string (bstr a.tenant), .bool a.keep], .agg #[.string (bstr b.tag.text), .bool b.tag.weak, .int .i64 b.modi, .int .i64 b.len, .int .i64 b.have_, .int .i64 b.fresh, .int .i64 b.while_, .int .i64 b.error, .slice b.keys.A b.keys.l.length b.keys.cap, .string (bstr b.tenant), .bool b.keep]] w fun e w' => e = .returned (.bool (sm a.abs b.abs)) ∧ Below w.heap.size w w' := by
  have B0 := (below_new w (.cells #[.string (bstr a.tag.text), .bool a.tag.weak, .int .i64 a.modi, .int .i64 a.len, .int .i64 a.have_, .int .i64 a.fresh, .int .i64 a.while_, .int .i64 a.error, .slice a.keys.A a.keys.l.length a.keys.cap, .string (bstr a.tenant), .bool a.keep] 32)).trans ((below_new (w.alloc (.cells #[.string (bstr a.tag.text), .bool a.tag.weak, .int .i64 a.modi, .int .i64 a.len, .int .i64 a.have_, .int .i64 a.fresh, .int .i64 a.while_, .int .i64 a.error, .slice a.keys.A a.keys.l.length a.keys.cap, .string (bstr a.tenant), .bool a.keep] 32)) (.cells #[.string (bstr b.tag.text), .bool b.tag.weak, .int .i64 b.modi, .int .i64 b.len, .int .i64 b.have_, .int .i64 b.fresh, .int .i64 b.while_, .int .i64 b.error, .slice b.keys.A b.keys.l.length b.keys.cap, .string (bstr b.tenant), .bool b.keep] 32)).mono (by simp))
  have bA := (Blk.new w 32 #[.string (bstr a.tag.text), .bool a.tag.weak, .int .i64 a.modi, .int .i64 a.len, .int .i64 a.have_, .int .i64 a.fresh, .int .i64 a.while_, .int .i64 a.error, .slice a.keys.A a.keys.l.length a.keys.cap, .string (bstr a.tenant), .bool a.keep]).alloc (.cells #[.string (bstr b.tag.text), .bool b.tag.weak, .int .i64 b.modi, .int .i64 b.len, .int .i64 b.have_, .int .i64 b.fresh, .int .i64 b.while_, .int .i64 b.error, .slice b.keys.A b.keys.l.length b.keys.cap, .string (bstr b.tenant), .bool b.keep] 32)
  have bB := Blk.new (w.alloc (.cells #[.string (bstr a.tag.text), .bool a.tag.weak, .int .i64 a.modi, .int .i64 a.len, .int .i64 a.have_, .int .i64 a.fresh, .int .i64 a.while_, .int .i64 a.error, .slice a.keys.A a.keys.l.length a.keys.cap, .string (bstr a.tenant), .bool a.keep] 32)) 32 #[.string (bstr b.tag.text), .bool b.tag.weak, .int .i64 b.modi, .int .i64 b.len, .int .i64 b.have_, .int .i64 b.fresh, .int .i64 b.while_, .int .i64 b.error, .slice b.keys.A b.keys.l.length b.keys.cap, .string (bstr b.tenant), .bool b.keep]
  have hsz : (w.alloc (.cells #[.string (bstr a.tag.text), .bool a.tag.weak, .int .i64 a.modi, .int .i64 a.len, .int .i64 a.have_, .int .i64 a.fresh, .int .i64 a.while_, .int .i64 a.error, .slice a.keys.A a.keys.l.length a.keys.cap, .string (bstr a.tenant), .bool a.keep] 32)).heap.size = w.heap.size + 1 := by simp
  rw [hsz] at bB
  have N0 : Hid (sm a.tag b.tag = false → sm a.abs b.abs = false) := fun hq => sm_false (fun e => (show ¬ a.tag = b.tag from by intro h; rw [sm_true h] at hq; cases hq) (by have := congrArg (fun z => z.tag) e; exact this))
  have N1 : Hid ((a.modi == b.modi) = false → sm a.abs b.abs = false) := fun hq => sm_false (fun e => (show ¬ a.modi = b.modi from by intro h; rw [h] at hq; simp at hq) (by have := congrArg (fun z => z.modi) e; exact this))
  have N2 : Hid ((a.len == b.len) = false → sm a.abs b.abs = false) := fun hq => sm_false (fun e => (show ¬ a.len = b.len from by intro h; rw [h] at hq; simp at hq) (by have := congrArg (fun z => z.len) e; exact this))
  have N3 : Hid ((a.have_ == b.have_) = false → sm a.abs b.abs = false) := fun hq => sm_false (fun e => (show ¬ a.have_ = b.have_ from by intro h; rw [h] at hq; simp at hq) (by have := congrArg (fun z => z.have_) e; exact this))
  have N4 : Hid ((a.fresh == b.fresh) = false → sm a.abs b.abs = false) := fun hq => sm_false (fun e => (show ¬ a.fresh = b.fresh from by intro h; rw [h] at hq; simp at hq) (by have := congrArg (fun z => z.fresh) e; exact this))
  have N5 : Hid ((a.while_ == b.while_) = false → sm a.abs b.abs = false) := fun hq => sm_false (fun e => (show ¬ a.while_ = b.while_ from by intro h; rw [h] at hq; simp at hq) (by have := congrArg (fun z => z.while_) e; exact this))
  have N6 : Hid ((a.error == b.error) = false → sm a.abs b.abs = false) := fun hq => sm_false (fun e => (show ¬ a.error = b.error from by intro h; rw [h] at hq; simp at hq) (by have := congrArg (fun z => z.error) e; exact this))
  have N7 : Hid (sm a.keys.l b.keys.l = false → sm a.abs b.abs = false) := fun hq => sm_false (fun e => (show ¬ a.keys.l = b.keys.l from by intro h; rw [sm_true h] at hq; cases hq) (by have := congrArg (fun z => z.keys) e; exact this))
  have N8 : Hid (((bstr a.tenant).toList == (bstr b.tenant).toList) = false → sm a.abs b.abs = false) := fun hq => sm_false (fun e => (show ¬ a.tenant = b.tenant from by intro h; rw [h] at hq; simp at hq) (by have := congrArg (fun z => z.tenant) e; exact this))
  have N9 : Hid ((a.keep == b.keep) = false → sm a.abs b.abs = false) := fun hq => sm_false (fun e => (show ¬ a.keep = b.keep from by intro h; rw [h] at hq; simp at hq) (by have := congrArg (fun z => z.keep) e; exact this))
  have NT : Hid (sm a.tag b.tag = true → (a.modi == b.modi) = true → (a.len == b.len) = true → (a.have_ == b.have_) = true → (a.fresh == b.fresh) = true → (a.while_ == b.while_) = true → (a.error == b.error) = true → sm a.keys.l b.keys.l = true → ((bstr a.tenant).toList == (bstr b.tenant).toList) = true → (a.keep == b.keep) = true → sm a.abs b.abs = true) := by
    intro h0 h1 h2 h3 h4 h5 h6 h7 h8 h9
    refine sm_true ?_
    unfold MetR.abs
    rw [show a.tag = b.tag from ((sm_iff _ _).1 h0), show a.modi = b.modi from (beq_iff_eq.1 h1), show a.len = b.len from (beq_iff_eq.1 h2), show a.have_ = b.have_ from (beq_iff_eq.1 h3), show a.fresh = b.fresh from (beq_iff_eq.1 h4), show a.while_ = b.while_ from (beq_iff_eq.1 h5), show a.error = b.error from (beq_iff_eq.1 h6), show a.keys.l = b.keys.l from ((sm_iff _ _).1 h7), show a.tenant = b.tenant from (by rw [bstr_beq] at h8; exact beq_iff_eq.1 h8), show a.keep = b.keep from (beq_iff_eq.1 h9)]
  go_enter Tryz.func100, Tryz.ntmps100
  unfold Tryz.f100
  go_step
  go_step
  refine wp_region_lit ?_
  with_reducible refine wpList_cutAt 3 ?_
  go_wp2
  with_reducible refine CutQ.go_ (wpList_nil ?_)
  go_step
  go_step
  go_step
  with_reducible refine wp_region_bare ?_
  with_reducible refine wpList_abs (fun w' => Blk w' w.heap.size 32 #[.string (bstr a.tag.text), .bool a.tag.weak, .int .i64 a.modi, .int .i64 a.len, .int .i64 a.have_, .int .i64 a.fresh, .int .i64 a.while_, .int .i64 a.error, .slice a.keys.A a.keys.l.length a.keys.cap, .string (bstr a.tenant), .bool a.keep] ∧ Blk w' (w.heap.size + 1) 32 #[.string (bstr b.tag.text), .bool b.tag.weak, .int .i64 b.modi, .int .i64 b.len, .int .i64 b.have_, .int .i64 b.fresh, .int .i64 b.while_, .int .i64 b.error, .slice b.keys.A b.keys.l.length b.keys.cap, .string (bstr b.tenant), .bool b.keep] ∧ Below w.heap.size w w') ⟨bA, bB, B0⟩ ?_
  clear bA bB B0 hsz
  rintro w0 ⟨bA0, bB0, B0⟩
  simp only [List.append_eq, List.cons_append, List.nil_append, List.map_cons, List.map_nil, nubOp, bareOp]
  have a_0 := bA0.at_ (i := 0) (v := .string (bstr a.tag.text)) rfl
  have b_0 := bB0.at_ (i := 0) (v := .string (bstr b.tag.text)) rfl
  have a_1 := bA0.at_ (i := 1) (v := .bool a.tag.weak) rfl
  have b_1 := bB0.at_ (i := 1) (v := .bool b.tag.weak) rfl
  with_reducible refine wpList_cutAt 4 ?_
  simp only [List.take_succ_cons, List.take_zero, List.drop_succ_cons, List.drop_zero]
  repeat (first | go_values | go_skip | go_guarded | go_step | go_upon)
  with_reducible refine CutQ.go_ (wpList_one (by kernel_rfl) (fun K hK => ?_))
  with_reducible refine tag_eql (x := .tmp 6) (y := .tmp 8) a.tag b.tag (by kernel_rfl) (by kernel_rfl) (by kernel_rfl) (hK _ _ ?_)
  clear hK K
  with_reducible refine wpList_cutAt 1 ?_
  simp only [List.take_succ_cons, List.take_zero, List.drop_succ_cons, List.drop_zero]
  repeat (first | go_values | go_skip | go_guarded | go_step | go_upon)
  with_reducible refine CutQ.go_ ?_
  clear a_0 b_0 a_1 b_1
  generalize hq0 : sm a.tag b.tag = q0
  cases q0
  · with_reducible refine dead_end1 (n := 73) 10 4 (by kernel_rfl) (by kernel_rfl) (by kernel_rfl) ?_; intro a' fa da; (repeat go_step); (try simp only [Exit.inBlock, Exit.then]); refine bodyPost_ret (results_tmp rfl _ _ _) da ?_; exact ⟨by rw [N0.out hq0]; exact congrArg Ending.returned fa, B0⟩
  have a_2 := bA0.at_ (i := 2) (v := .int .i64 a.modi) rfl
  have b_2 := bB0.at_ (i := 2) (v := .int .i64 b.modi) rfl
  with_reducible refine wpList_cutAt 7 ?_
  simp only [List.take_succ_cons, List.take_zero, List.drop_succ_cons, List.drop_zero]
  repeat (first | go_values | go_skip | go_guarded | go_step | go_upon)
  with_reducible refine CutQ.go_ ?_
  clear a_2 b_2
  generalize hq1 : (a.modi == b.modi) = q1
  cases q1
  · with_reducible refine dead_end1 (n := 73) 17 4 (by kernel_rfl) (by kernel_rfl) (by kernel_rfl) ?_; intro a' fa da; (repeat go_step); (try simp only [Exit.inBlock, Exit.then]); refine bodyPost_ret (results_tmp rfl _ _ _) da ?_; exact ⟨by rw [N1.out hq1]; exact congrArg Ending.returned fa, B0⟩
  have a_3 := bA0.at_ (i := 3) (v := .int .i64 a.len) rfl
  have b_3 := bB0.at_ (i := 3) (v := .int .i64 b.len) rfl
  with_reducible refine wpList_cutAt 7 ?_
  simp only [List.take_succ_cons, List.take_zero, List.drop_succ_cons, List.drop_zero]
  repeat (first | go_values | go_skip | go_guarded | go_step | go_upon)
  with_reducible refine CutQ.go_ ?_
  clear a_3 b_3
  generalize hq2 : (a.len == b.len) = q2
  cases q2
  · with_reducible refine dead_end1 (n := 73) 24 4 (by kernel_rfl) (by kernel_rfl) (by kernel_rfl) ?_; intro a' fa da; (repeat go_step); (try simp only [Exit.inBlock, Exit.then]); refine bodyPost_ret (results_tmp rfl _ _ _) da ?_; exact ⟨by rw [N2.out hq2]; exact congrArg Ending.returned fa, B0⟩
  have a_4 := bA0.at_ (i := 4) (v := .int .i64 a.have_) rfl
  have b_4 := bB0.at_ (i := 4) (v := .int .i64 b.have_) rfl
  with_reducible refine wpList_cutAt 7 ?_
  simp only [List.take_succ_cons, List.take_zero, List.drop_succ_cons, List.drop_zero]
  repeat (first | go_values | go_skip | go_guarded | go_step | go_upon)
  with_reducible refine CutQ.go_ ?_
  clear a_4 b_4
  generalize hq3 : (a.have_ == b.have_) = q3
  cases q3
  · with_reducible refine dead_end1 (n := 73) 31 4 (by kernel_rfl) (by kernel_rfl) (by kernel_rfl) ?_; intro a' fa da; (repeat go_step); (try simp only [Exit.inBlock, Exit.then]); refine bodyPost_ret (results_tmp rfl _ _ _) da ?_; exact ⟨by rw [N3.out hq3]; exact congrArg Ending.returned fa, B0⟩
  have a_5 := bA0.at_ (i := 5) (v := .int .i64 a.fresh) rfl
  have b_5 := bB0.at_ (i := 5) (v := .int .i64 b.fresh) rfl
  with_reducible refine wpList_cutAt 7 ?_
  simp only [List.take_succ_cons, List.take_zero, List.drop_succ_cons, List.drop_zero]
  repeat (first | go_values | go_skip | go_guarded | go_step | go_upon)
  with_reducible refine CutQ.go_ ?_
  clear a_5 b_5
  generalize hq4 : (a.fresh == b.fresh) = q4
  cases q4
  · with_reducible refine dead_end1 (n := 73) 38 4 (by kernel_rfl) (by kernel_rfl) (by kernel_rfl) ?_; intro a' fa da; (repeat go_step); (try simp only [Exit.inBlock, Exit.then]); refine bodyPost_ret (results_tmp rfl _ _ _) da ?_; exact ⟨by rw [N4.out hq4]; exact congrArg Ending.returned fa, B0⟩
  have a_6 := bA0.at_ (i := 6) (v := .int .i64 a.while_) rfl
  have b_6 := bB0.at_ (i := 6) (v := .int .i64 b.while_) rfl
  with_reducible refine wpList_cutAt 7 ?_
  simp only [List.take_succ_cons, List.take_zero, List.drop_succ_cons, List.drop_zero]
  repeat (first | go_values | go_skip | go_guarded | go_step | go_upon)
  with_reducible refine CutQ.go_ ?_
  clear a_6 b_6
  generalize hq5 : (a.while_ == b.while_) = q5
  cases q5
  · with_reducible refine dead_end1 (n := 73) 45 4 (by kernel_rfl) (by kernel_rfl) (by kernel_rfl) ?_; intro a' fa da; (repeat go_step); (try simp only [Exit.inBlock, Exit.then]); refine bodyPost_ret (results_tmp rfl _ _ _) da ?_; exact ⟨by rw [N5.out hq5]; exact congrArg Ending.returned fa, B0⟩
  have a_7 := bA0.at_ (i := 7) (v := .int .i64 a.error) rfl
  have b_7 := bB0.at_ (i := 7) (v := .int .i64 b.error) rfl
  with_reducible refine wpList_cutAt 7 ?_
  simp only [List.take_succ_cons, List.take_zero, List.drop_succ_cons, List.drop_zero]
  repeat (first | go_values | go_skip | go_guarded | go_step | go_upon)
  with_reducible refine CutQ.go_ ?_
  clear a_7 b_7
  generalize hq6 : (a.error == b.error) = q6
  cases q6
  · with_reducible refine dead_end1 (n := 73) 52 4 (by kernel_rfl) (by kernel_rfl) (by kernel_rfl) ?_; intro a' fa da; (repeat go_step); (try simp only [Exit.inBlock, Exit.then]); refine bodyPost_ret (results_tmp rfl _ _ _) da ?_; exact ⟨by rw [N6.out hq6]; exact congrArg Ending.returned fa, B0⟩
  have a_8 := bA0.at_ (i := 8) (v := .slice a.keys.A a.keys.l.length a.keys.cap) rfl
  have b_8 := bB0.at_ (i := 8) (v := .slice b.keys.A b.keys.l.length b.keys.cap) rfl
  with_reducible refine wpList_cutAt 7 ?_
  simp only [List.take_succ_cons, List.take_zero, List.drop_succ_cons, List.drop_zero]
  go_wp2_with (go_at_call 103; refine (eqtexts_calls _ _ _ _ _ _ _ (ha.keys.rv.below B0) (hb.keys.rv.below B0) (Nat.le_trans ha.keys.le ha.keys.cap)).mono ?_; rintro _ w1 ⟨rfl, d1⟩; have B1 := B0.trans (d1.mono B0.size); have bA1 := bA0.below d1 bA0.lt; have bB1 := bB0.below d1 bB0.lt; clear d1 bA0 bB0 a_8 b_8)
  with_reducible refine CutQ.go_ ?_
  generalize hq7 : sm a.keys.l b.keys.l = q7
  cases q7
  · with_reducible refine dead_end1 (n := 73) 59 4 (by kernel_rfl) (by kernel_rfl) (by kernel_rfl) ?_; intro a' fa da; (repeat go_step); (try simp only [Exit.inBlock, Exit.then]); refine bodyPost_ret (results_tmp rfl _ _ _) da ?_; exact ⟨by rw [N7.out hq7]; exact congrArg Ending.returned fa, B1⟩
  have a_9 := bA1.at_ (i := 9) (v := .string (bstr a.tenant)) rfl
  have b_9 := bB1.at_ (i := 9) (v := .string (bstr b.tenant)) rfl
  with_reducible refine wpList_cutAt 7 ?_
  simp only [List.take_succ_cons, List.take_zero, List.drop_succ_cons, List.drop_zero]
  repeat (first | go_values | go_skip | go_guarded | go_step | go_upon)
  with_reducible refine CutQ.go_ ?_
  clear a_9 b_9
  generalize hq8 : ((bstr a.tenant).toList == (bstr b.tenant).toList) = q8
  cases q8
  · with_reducible refine dead_end1 (n := 73) 66 4 (by kernel_rfl) (by kernel_rfl) (by kernel_rfl) ?_; intro a' fa da; (repeat go_step); (try simp only [Exit.inBlock, Exit.then]); refine bodyPost_ret (results_tmp rfl _ _ _) da ?_; exact ⟨by rw [N8.out hq8]; exact congrArg Ending.returned fa, B1⟩
  have a_10 := bA1.at_ (i := 10) (v := .bool a.keep) rfl
  have b_10 := bB1.at_ (i := 10) (v := .bool b.keep) rfl
  repeat (first | go_values | go_skip | go_guarded | go_step | go_upon)
  go_ret
  cases hq9 : (a.keep == b.keep)
  · exact ⟨by rw [N9.out hq9]; simp, B1⟩
  · exact ⟨by rw [NT.out hq0 hq1 hq2 hq3 hq4 hq5 hq6 hq7 hq8 hq9]; simp, B1⟩
end Go.Proofs.YtiokbebodblhaaaGreatDoor
