/-
  Walk of the document: all an event's words; whether two events are alike. Printed by docall.py.
-/
import Derived.Test.YtiokbebodblhaaaGreatDoorTraceDq
namespace Go.Proofs.YtiokbebodblhaaaGreatDoor
open Go.RowKit TraceP

theorem reqW_ne (q : TraceP.Req) : reqW q ≠ [] := by unfold reqW; simp
theorem ansW_ne (a : TraceP.Ans) : ansW a ≠ [] := by unfold ansW; simp
theorem fetW_ne (a : TraceP.Fet) : fetW a ≠ [] := by unfold fetW; simp
theorem repW_ne (a : TraceP.Rep) : repW a ≠ [] := by unfold repW; simp
theorem textsW_ne (l : List Txt) : textsW l ≠ [] := by unfold textsW; simp
theorem fl_sp {a : List Txt} (h : a ≠ []) : flT a = 32 :: spT a := by
  cases a with
  | nil => exact absurd rfl h
  | cons x r => rw [sp_fl]
theorem all_text (e : EvtR) : numT e.kind ++ [32] ++ numT e.tick ++ [32] ++ numT e.node ++ [32] ++ numT e.who ++ [32] ++ wordT e.object ++ [32] ++ spT (reqW e.req.abs) ++ [32] ++ spT (metW e.met.abs) ++ [32] ++ spT (ansW e.ans.abs) ++ [32] ++ spT (fetW e.fet) ++ [32] ++ spT (repW e.rep.abs) ++ [32] ++ wordT e.bytes.l ++ [32] ++ spT (textsW e.keys.l) ++ [32] ++ yesT e.hard ++ [32] ++ yesT e.whole = spT (allW e.abs) := by
  have e0 : allW e.abs = numT e.kind :: numT e.tick :: numT e.node :: numT e.who :: wordT e.object :: (reqW e.req.abs ++ (metW e.met.abs ++ (ansW e.ans.abs ++ (fetW e.fet ++ (repW e.rep.abs ++ (wordT e.bytes.l :: (textsW e.keys.l ++ [yesT e.hard, yesT e.whole]))))))) := rfl
  rw [e0, spT_fl]
  simp only [flT_cons, flT_append, fl_sp (reqW_ne _), fl_sp (metW_ne _), fl_sp (ansW_ne _), fl_sp (fetW_ne _), fl_sp (repW_ne _), fl_sp (textsW_ne _)]
  simp [flT]
theorem fetC_grow {f : Fet} (h : FetP f) (w r : World) : Calls Tryz.prog 40 #[.agg (ftC f).toArray] (grow w r) fun e w' => e = .returned (.string (bstr (spT (fetW f)))) ∧ ∃ r', w' = grow w r' :=
  calls_grow (dfetch_calls f (grow w r) h)
/-- What an event's words ask: no text is long, no list. -/
structure ShortE (e : Evt) : Prop where
  object : ShT e.object
  req : ReqP e.req
  met : MetP e.met
  ans : AnsP e.ans
  fet : FetP e.fet
  rep : RepP e.rep
  bytes : ShT e.bytes
  keys : LstP 100001 ShT e.keys
set_option maxRecDepth 100000 in
set_option maxHeartbeats 3200000 in
theorem all_calls (e : EvtR) (w : World) (h0 : EvtOK w e) (hp : ShortE e.abs) :
    Calls Tryz.prog 48 #[.agg e.cells.toArray] w fun r w' => r = .returned (.string (bstr (spT (allW e.abs)))) ∧ Below w.heap.size w w' := by
  have bE := Blk.new w 45 e.cells.toArray
  have B := below_new w (.cells e.cells.toArray 45)
  have h := h0.below B
  clear h0
  have hT := Lib.hid (all_text e)
  have l1 := numT_len h.kind
  have l2 := numT_len h.tick
  have l3 := numT_len h.node
  have l4 := numT_len h.who
  have l5 : (wordT e.object).length ≤ 1000000 := wordT_len hp.object
  have l6 : Sml (spT (reqW e.req.abs)) := sml_lw (req_lw hp.req) (by decide)
  have l7 : Sml (spT (metW e.met.abs)) := sml_lw (met_lw hp.met) (by decide)
  have l8 : Sml (spT (ansW e.ans.abs)) := sml_lw (ans_lw hp.ans) (by decide)
  have l9 : Sml (spT (fetW e.fet)) := sml_lw (fet_lw hp.fet) (by decide)
  have l10 : Sml (spT (repW e.rep.abs)) := sml_lw (rep_lw hp.rep) (by decide)
  have l11 : (wordT e.bytes.l).length ≤ 1000000 := wordT_len hp.bytes
  have l12 : Sml (spT (textsW e.keys.l)) := sml_lw (texts_lw hp.keys) (by decide)
  have l13 := yesT_len e.hard
  have l14 := yesT_len e.whole
  unfold Sml at l6 l7 l8 l9 l10 l12
  go_enter Tryz.func48, Tryz.ntmps48
  go_upto_region 1 with (fail)
  generalize w.alloc (.cells e.cells.toArray 45) = w1 at *
  have cv : ∀ r, (convert 43 9 (.slice e.bytes.A e.bytes.l.length e.bytes.cap)).run Tryz.prog (grow w1 r) = .ok (.string (bstr e.bytes.l)) (grow w1 r) := fun r =>
    run_str (P := Tryz.prog) (grow w1 r) 43 5 9 Tryz.underlying43 Tryz.underlying5 Tryz.underlying9 e.bytes.A e.bytes.l e.bytes.l.length e.bytes.cap (by have := h.bytes.rv.below (grow_below w1 r); rw [fl_by] at this; exact this) rfl
  simp only [List.append]
  refine wp_region_grow (by kernel_rfl) (by kernel_rfl) ?_
  go_big_quiet_step (fail)
  have c0 := growc (bE.at_ (i := 0) (v := .int .i64 e.kind) rfl)
  go_big_quiet_step (fail)
  clear c0
  go_big_quiet_step (first | (go_at_call 33; exact numC_grow h.kind _ _))
  with_reducible refine wqA (.tmp 5) spO rfl (numT e.kind) ([32]) ?_
  go_frame
  go_big_quiet_step (fail)
  have c1 := growc (bE.at_ (i := 1) (v := .int .i64 e.tick) rfl)
  go_big_quiet_step (fail)
  clear c1
  go_big_quiet_step (first | (go_at_call 33; exact numC_grow h.tick _ _))
  with_reducible refine wqA (.tmp 6) (.tmp 9) rfl (numT e.kind ++ [32]) (numT e.tick) ?_
  go_frame
  with_reducible refine wqA (.tmp 10) spO rfl (numT e.kind ++ [32] ++ numT e.tick) ([32]) ?_
  go_frame
  go_big_quiet_step (fail)
  have c2 := growc (bE.at_ (i := 2) (v := .int .i64 e.node) rfl)
  go_big_quiet_step (fail)
  clear c2
  go_big_quiet_step (first | (go_at_call 33; exact numC_grow h.node _ _))
  with_reducible refine wqA (.tmp 11) (.tmp 14) rfl (numT e.kind ++ [32] ++ numT e.tick ++ [32]) (numT e.node) ?_
  go_frame
  with_reducible refine wqA (.tmp 15) spO rfl (numT e.kind ++ [32] ++ numT e.tick ++ [32] ++ numT e.node) ([32]) ?_
  go_frame
  go_big_quiet_step (fail)
  have c3 := growc (bE.at_ (i := 3) (v := .int .i64 e.who) rfl)
  go_big_quiet_step (fail)
  clear c3
  go_big_quiet_step (first | (go_at_call 33; exact numC_grow h.who _ _))
  with_reducible refine wqA (.tmp 16) (.tmp 19) rfl (numT e.kind ++ [32] ++ numT e.tick ++ [32] ++ numT e.node ++ [32]) (numT e.who) ?_
  go_frame
  with_reducible refine wqA (.tmp 20) spO rfl (numT e.kind ++ [32] ++ numT e.tick ++ [32] ++ numT e.node ++ [32] ++ numT e.who) ([32]) ?_
  go_frame
  go_big_quiet_step (fail)
  have c4 := growc (bE.at_ (i := 4) (v := .string (bstr e.object)) rfl)
  go_big_quiet_step (fail)
  clear c4
  go_big_quiet_step (first | (go_at_call 34; exact wordC_grow hp.object _ _))
  with_reducible refine wqA (.tmp 21) (.tmp 24) rfl (numT e.kind ++ [32] ++ numT e.tick ++ [32] ++ numT e.node ++ [32] ++ numT e.who ++ [32]) (wordT e.object) ?_
  go_frame
  with_reducible refine wqA (.tmp 25) spO rfl (numT e.kind ++ [32] ++ numT e.tick ++ [32] ++ numT e.node ++ [32] ++ numT e.who ++ [32] ++ wordT e.object) ([32]) ?_
  go_frame
  go_big_quiet_step (fail)
  have c5 := growc (bE.at_ (i := 5) (v := .bool e.req.head) rfl)
  have c6 := growc (bE.at_ (i := 6) (v := .string (bstr e.req.object)) rfl)
  have c7 := growc (bE.at_ (i := 7) (v := .slice e.req.specs.A e.req.specs.l.length e.req.specs.cap) rfl)
  have c8 := growc (bE.at_ (i := 8) (v := .slice e.req.mtch.A e.req.mtch.l.length e.req.mtch.cap) rfl)
  have c9 := growc (bE.at_ (i := 9) (v := .slice e.req.non.A e.req.non.l.length e.req.non.cap) rfl)
  have c10 := growc (bE.at_ (i := 10) (v := .bool e.req.anyM) rfl)
  have c11 := growc (bE.at_ (i := 11) (v := .bool e.req.anyN) rfl)
  have c12 := growc (bE.at_ (i := 12) (v := .int .i64 e.req.since) rfl)
  have c13 := growc (bE.at_ (i := 13) (v := .int .i64 e.req.unless_) rfl)
  have c14 := growc (bE.at_ (i := 14) (v := .string (bstr e.req.range.text)) rfl)
  have c15 := growc (bE.at_ (i := 15) (v := .bool e.req.range.weak) rfl)
  go_big_quiet_step (fail)
  clear c5 c6 c7 c8 c9 c10 c11 c12 c13 c14 c15
  go_big_quiet_step (first | (go_at_call 38; exact reqC_grow _ _ h.req hp.req))
  with_reducible refine wqA (.tmp 26) (.tmp 29) rfl (numT e.kind ++ [32] ++ numT e.tick ++ [32] ++ numT e.node ++ [32] ++ numT e.who ++ [32] ++ wordT e.object ++ [32]) (spT (reqW e.req.abs)) ?_
  go_frame
  with_reducible refine wqA (.tmp 30) spO rfl (numT e.kind ++ [32] ++ numT e.tick ++ [32] ++ numT e.node ++ [32] ++ numT e.who ++ [32] ++ wordT e.object ++ [32] ++ spT (reqW e.req.abs)) ([32]) ?_
  go_frame
  go_big_quiet_step (fail)
  have c16 := growc (bE.at_ (i := 16) (v := .string (bstr e.met.tag.text)) rfl)
  have c17 := growc (bE.at_ (i := 17) (v := .bool e.met.tag.weak) rfl)
  have c18 := growc (bE.at_ (i := 18) (v := .int .i64 e.met.modi) rfl)
  have c19 := growc (bE.at_ (i := 19) (v := .int .i64 e.met.len) rfl)
  have c20 := growc (bE.at_ (i := 20) (v := .int .i64 e.met.have_) rfl)
  have c21 := growc (bE.at_ (i := 21) (v := .int .i64 e.met.fresh) rfl)
  have c22 := growc (bE.at_ (i := 22) (v := .int .i64 e.met.while_) rfl)
  have c23 := growc (bE.at_ (i := 23) (v := .int .i64 e.met.error) rfl)
  have c24 := growc (bE.at_ (i := 24) (v := .slice e.met.keys.A e.met.keys.l.length e.met.keys.cap) rfl)
  have c25 := growc (bE.at_ (i := 25) (v := .string (bstr e.met.tenant)) rfl)
  have c26 := growc (bE.at_ (i := 26) (v := .bool e.met.keep) rfl)
  go_big_quiet_step (fail)
  clear c16 c17 c18 c19 c20 c21 c22 c23 c24 c25 c26
  go_big_quiet_step (first | (go_at_call 35; exact metaC_grow _ _ h.met hp.met))
  with_reducible refine wqA (.tmp 31) (.tmp 34) rfl (numT e.kind ++ [32] ++ numT e.tick ++ [32] ++ numT e.node ++ [32] ++ numT e.who ++ [32] ++ wordT e.object ++ [32] ++ spT (reqW e.req.abs) ++ [32]) (spT (metW e.met.abs)) ?_
  go_frame
  with_reducible refine wqA (.tmp 35) spO rfl (numT e.kind ++ [32] ++ numT e.tick ++ [32] ++ numT e.node ++ [32] ++ numT e.who ++ [32] ++ wordT e.object ++ [32] ++ spT (reqW e.req.abs) ++ [32] ++ spT (metW e.met.abs)) ([32]) ?_
  go_frame
  go_big_quiet_step (fail)
  have c27 := growc (bE.at_ (i := 27) (v := .int .i64 e.ans.status) rfl)
  have c28 := growc (bE.at_ (i := 28) (v := .slice e.ans.fields.A e.ans.fields.l.length e.ans.fields.cap) rfl)
  have c29 := growc (bE.at_ (i := 29) (v := .slice e.ans.parts.A e.ans.parts.l.length e.ans.parts.cap) rfl)
  have c30 := growc (bE.at_ (i := 30) (v := .int .i64 e.ans.size) rfl)
  go_big_quiet_step (fail)
  clear c27 c28 c29 c30
  go_big_quiet_step (first | (go_at_call 39; exact answC_grow _ _ h.ans hp.ans))
  with_reducible refine wqA (.tmp 36) (.tmp 39) rfl (numT e.kind ++ [32] ++ numT e.tick ++ [32] ++ numT e.node ++ [32] ++ numT e.who ++ [32] ++ wordT e.object ++ [32] ++ spT (reqW e.req.abs) ++ [32] ++ spT (metW e.met.abs) ++ [32]) (spT (ansW e.ans.abs)) ?_
  go_frame
  with_reducible refine wqA (.tmp 40) spO rfl (numT e.kind ++ [32] ++ numT e.tick ++ [32] ++ numT e.node ++ [32] ++ numT e.who ++ [32] ++ wordT e.object ++ [32] ++ spT (reqW e.req.abs) ++ [32] ++ spT (metW e.met.abs) ++ [32] ++ spT (ansW e.ans.abs)) ([32]) ?_
  go_frame
  go_big_quiet_step (fail)
  have c31 := growc (bE.at_ (i := 31) (v := .string (bstr e.fet.object)) rfl)
  have c32 := growc (bE.at_ (i := 32) (v := .int .i64 e.fet.span.frm) rfl)
  have c33 := growc (bE.at_ (i := 33) (v := .int .i64 e.fet.span.to) rfl)
  have c34 := growc (bE.at_ (i := 34) (v := .string (bstr e.fet.mtch.text)) rfl)
  have c35 := growc (bE.at_ (i := 35) (v := .bool e.fet.mtch.weak) rfl)
  have c36 := growc (bE.at_ (i := 36) (v := .string (bstr e.fet.non.text)) rfl)
  have c37 := growc (bE.at_ (i := 37) (v := .bool e.fet.non.weak) rfl)
  go_big_quiet_step (fail)
  clear c31 c32 c33 c34 c35 c36 c37
  go_big_quiet_step (first | (go_at_call 40; exact fetC_grow hp.fet _ _))
  with_reducible refine wqA (.tmp 41) (.tmp 44) rfl (numT e.kind ++ [32] ++ numT e.tick ++ [32] ++ numT e.node ++ [32] ++ numT e.who ++ [32] ++ wordT e.object ++ [32] ++ spT (reqW e.req.abs) ++ [32] ++ spT (metW e.met.abs) ++ [32] ++ spT (ansW e.ans.abs) ++ [32]) (spT (fetW e.fet)) ?_
  go_frame
  with_reducible refine wqA (.tmp 45) spO rfl (numT e.kind ++ [32] ++ numT e.tick ++ [32] ++ numT e.node ++ [32] ++ numT e.who ++ [32] ++ wordT e.object ++ [32] ++ spT (reqW e.req.abs) ++ [32] ++ spT (metW e.met.abs) ++ [32] ++ spT (ansW e.ans.abs) ++ [32] ++ spT (fetW e.fet)) ([32]) ?_
  go_frame
  go_big_quiet_step (fail)
  have c38 := growc (bE.at_ (i := 38) (v := .int .i64 e.rep.status) rfl)
  have c39 := growc (bE.at_ (i := 39) (v := .string (bstr e.rep.met.tag.text)) rfl)
  have c40 := growc (bE.at_ (i := 40) (v := .bool e.rep.met.tag.weak) rfl)
  have c41 := growc (bE.at_ (i := 41) (v := .int .i64 e.rep.met.modi) rfl)
  have c42 := growc (bE.at_ (i := 42) (v := .int .i64 e.rep.met.len) rfl)
  have c43 := growc (bE.at_ (i := 43) (v := .int .i64 e.rep.met.have_) rfl)
  have c44 := growc (bE.at_ (i := 44) (v := .int .i64 e.rep.met.fresh) rfl)
  have c45 := growc (bE.at_ (i := 45) (v := .int .i64 e.rep.met.while_) rfl)
  have c46 := growc (bE.at_ (i := 46) (v := .int .i64 e.rep.met.error) rfl)
  have c47 := growc (bE.at_ (i := 47) (v := .slice e.rep.met.keys.A e.rep.met.keys.l.length e.rep.met.keys.cap) rfl)
  have c48 := growc (bE.at_ (i := 48) (v := .string (bstr e.rep.met.tenant)) rfl)
  have c49 := growc (bE.at_ (i := 49) (v := .bool e.rep.met.keep) rfl)
  have c50 := growc (bE.at_ (i := 50) (v := .int .i64 e.rep.span.frm) rfl)
  have c51 := growc (bE.at_ (i := 51) (v := .int .i64 e.rep.span.to) rfl)
  have c52 := growc (bE.at_ (i := 52) (v := .int .i64 e.rep.age) rfl)
  go_big_quiet_step (fail)
  clear c38 c39 c40 c41 c42 c43 c44 c45 c46 c47 c48 c49 c50 c51 c52
  go_big_quiet_step (first | (go_at_call 41; exact replyC_grow _ _ h.rep hp.rep))
  with_reducible refine wqA (.tmp 46) (.tmp 49) rfl (numT e.kind ++ [32] ++ numT e.tick ++ [32] ++ numT e.node ++ [32] ++ numT e.who ++ [32] ++ wordT e.object ++ [32] ++ spT (reqW e.req.abs) ++ [32] ++ spT (metW e.met.abs) ++ [32] ++ spT (ansW e.ans.abs) ++ [32] ++ spT (fetW e.fet) ++ [32]) (spT (repW e.rep.abs)) ?_
  go_frame
  with_reducible refine wqA (.tmp 50) spO rfl (numT e.kind ++ [32] ++ numT e.tick ++ [32] ++ numT e.node ++ [32] ++ numT e.who ++ [32] ++ wordT e.object ++ [32] ++ spT (reqW e.req.abs) ++ [32] ++ spT (metW e.met.abs) ++ [32] ++ spT (ansW e.ans.abs) ++ [32] ++ spT (fetW e.fet) ++ [32] ++ spT (repW e.rep.abs)) ([32]) ?_
  go_frame
  go_big_quiet_step (fail)
  have c53 := growc (bE.at_ (i := 53) (v := .slice e.bytes.A e.bytes.l.length e.bytes.cap) rfl)
  go_big_quiet_step (fail)
  clear c53
  go_big_quiet_step (fail)
  go_big_quiet_step (first | (go_at_call 34; exact wordC_grow hp.bytes _ _))
  with_reducible refine wqA (.tmp 51) (.tmp 55) rfl (numT e.kind ++ [32] ++ numT e.tick ++ [32] ++ numT e.node ++ [32] ++ numT e.who ++ [32] ++ wordT e.object ++ [32] ++ spT (reqW e.req.abs) ++ [32] ++ spT (metW e.met.abs) ++ [32] ++ spT (ansW e.ans.abs) ++ [32] ++ spT (fetW e.fet) ++ [32] ++ spT (repW e.rep.abs) ++ [32]) (wordT e.bytes.l) ?_
  go_frame
  with_reducible refine wqA (.tmp 56) spO rfl (numT e.kind ++ [32] ++ numT e.tick ++ [32] ++ numT e.node ++ [32] ++ numT e.who ++ [32] ++ wordT e.object ++ [32] ++ spT (reqW e.req.abs) ++ [32] ++ spT (metW e.met.abs) ++ [32] ++ spT (ansW e.ans.abs) ++ [32] ++ spT (fetW e.fet) ++ [32] ++ spT (repW e.rep.abs) ++ [32] ++ wordT e.bytes.l) ([32]) ?_
  go_frame
  go_big_quiet_step (fail)
  have c54 := growc (bE.at_ (i := 54) (v := .slice e.keys.A e.keys.l.length e.keys.cap) rfl)
  go_big_quiet_step (fail)
  clear c54
  go_big_quiet_step (first | (go_at_call 37; exact textsC_grow _ _ h.keys.rv hp.keys))
  with_reducible refine wqA (.tmp 57) (.tmp 60) rfl (numT e.kind ++ [32] ++ numT e.tick ++ [32] ++ numT e.node ++ [32] ++ numT e.who ++ [32] ++ wordT e.object ++ [32] ++ spT (reqW e.req.abs) ++ [32] ++ spT (metW e.met.abs) ++ [32] ++ spT (ansW e.ans.abs) ++ [32] ++ spT (fetW e.fet) ++ [32] ++ spT (repW e.rep.abs) ++ [32] ++ wordT e.bytes.l ++ [32]) (spT (textsW e.keys.l)) ?_
  go_frame
  with_reducible refine wqA (.tmp 61) spO rfl (numT e.kind ++ [32] ++ numT e.tick ++ [32] ++ numT e.node ++ [32] ++ numT e.who ++ [32] ++ wordT e.object ++ [32] ++ spT (reqW e.req.abs) ++ [32] ++ spT (metW e.met.abs) ++ [32] ++ spT (ansW e.ans.abs) ++ [32] ++ spT (fetW e.fet) ++ [32] ++ spT (repW e.rep.abs) ++ [32] ++ wordT e.bytes.l ++ [32] ++ spT (textsW e.keys.l)) ([32]) ?_
  go_frame
  go_big_quiet_step (fail)
  have c55 := growc (bE.at_ (i := 55) (v := .bool e.hard) rfl)
  go_big_quiet_step (fail)
  clear c55
  go_big_quiet_step (first | (go_at_call 36; exact yesC_grow e.hard _ _))
  with_reducible refine wqA (.tmp 62) (.tmp 65) rfl (numT e.kind ++ [32] ++ numT e.tick ++ [32] ++ numT e.node ++ [32] ++ numT e.who ++ [32] ++ wordT e.object ++ [32] ++ spT (reqW e.req.abs) ++ [32] ++ spT (metW e.met.abs) ++ [32] ++ spT (ansW e.ans.abs) ++ [32] ++ spT (fetW e.fet) ++ [32] ++ spT (repW e.rep.abs) ++ [32] ++ wordT e.bytes.l ++ [32] ++ spT (textsW e.keys.l) ++ [32]) (yesT e.hard) ?_
  go_frame
  with_reducible refine wqA (.tmp 66) spO rfl (numT e.kind ++ [32] ++ numT e.tick ++ [32] ++ numT e.node ++ [32] ++ numT e.who ++ [32] ++ wordT e.object ++ [32] ++ spT (reqW e.req.abs) ++ [32] ++ spT (metW e.met.abs) ++ [32] ++ spT (ansW e.ans.abs) ++ [32] ++ spT (fetW e.fet) ++ [32] ++ spT (repW e.rep.abs) ++ [32] ++ wordT e.bytes.l ++ [32] ++ spT (textsW e.keys.l) ++ [32] ++ yesT e.hard) ([32]) ?_
  go_frame
  go_big_quiet_step (fail)
  have c56 := growc (bE.at_ (i := 56) (v := .bool e.whole) rfl)
  go_big_quiet_step (fail)
  clear c56
  go_big_quiet_step (first | (go_at_call 36; exact yesC_grow e.whole _ _))
  with_reducible refine wqA (.tmp 67) (.tmp 70) rfl (numT e.kind ++ [32] ++ numT e.tick ++ [32] ++ numT e.node ++ [32] ++ numT e.who ++ [32] ++ wordT e.object ++ [32] ++ spT (reqW e.req.abs) ++ [32] ++ spT (metW e.met.abs) ++ [32] ++ spT (ansW e.ans.abs) ++ [32] ++ spT (fetW e.fet) ++ [32] ++ spT (repW e.rep.abs) ++ [32] ++ wordT e.bytes.l ++ [32] ++ spT (textsW e.keys.l) ++ [32] ++ yesT e.hard ++ [32]) (yesT e.whole) ?_
  go_frame
  go_big_quiet_step (fail)
  refine wpQuiet_nil ?_
  rintro w' ⟨r, rfl⟩
  have BB := B.trans ((grow_below w1 r).mono B.size)
  clear bE
  go_wp2
  go_ret
  exact ⟨by rw [← hT.out]; rfl, BB⟩
end Go.Proofs.YtiokbebodblhaaaGreatDoor
