/-
  Walk of the document: an event's line, or why there is none. Printed by doctext.py.
-/
import Derived.Test.YtiokbebodblhaaaGreatDoorTraceDf
import Derived.Test.YtiokbebodblhaaaGreatDoorTTx
namespace Go.Proofs.YtiokbebodblhaaaGreatDoor
open Go.RowKit TraceP

theorem wp_region_growIn {P : Program} {id : Nat} {Q : Exit → Act → World → Prop} {a : Act} {w1 r0 : World} {l : List Oper} (hm : P.follows .mixedOrders = true) (hB : Region.lexB .any l.toArray = true)
    (h : wpQuiet P l.toArray (fun w' => ∃ r, w' = grow w1 r) (fun a' => ∀ w', (∃ r, w' = grow w1 r) → Q .normal a' w') l a) : (Code.region id l.toArray true).wp P Q a (grow w1 r0) :=
  wp_region_quiet (C := fun w' => ∃ r, w' = grow w1 r) hm hB ⟨(grow w1 r0).drew, (grow_of (grow_below w1 r0).drew).symm⟩ (by simpa using h)
theorem fitC_grow (w1 r0 : World) {e : EvtR} (h : EvtOK w1 e) (hp : ShortE e.abs) {b : Bool} (hb : rightB e.abs = b) : Calls Tryz.prog 32 #[.agg e.cells.toArray] (grow w1 r0) fun x w' => x = .returned (.bool b) ∧ ∃ r', w' = grow w1 r' :=
  calls_grow (hb ▸ fit_calls (grow w1 r0) e (h.below (grow_below w1 r0)) hp)
theorem cvR (w1 : World) {r : Row UInt8} (h : RowOK byC w1 r) : ∀ x, (convert 43 9 (.slice r.A r.l.length r.cap)).run Tryz.prog (grow w1 x) = .ok (.string (bstr r.l)) (grow w1 x) := fun x =>
  run_str (P := Tryz.prog) (grow w1 x) 43 5 9 Tryz.underlying43 Tryz.underlying5 Tryz.underlying9 r.A r.l r.l.length r.cap (by have := h.rv.below (grow_below w1 x); rw [fl_by] at this; exact this) rfl
/-- The kinds' names. -/
def namesV : List Value := [.string ⟨#[115, 101, 116]⟩, .string ⟨#[103, 114, 111, 119]⟩, .string ⟨#[115, 101, 97, 108]⟩, .string ⟨#[103, 111, 110, 101]⟩, .string ⟨#[112, 117, 114, 103, 101]⟩, .string ⟨#[97, 115, 107]⟩, .string ⟨#[108, 101, 97, 118, 101]⟩, .string ⟨#[104, 101, 97, 100]⟩, .string ⟨#[98, 111, 100, 121]⟩, .string ⟨#[101, 110, 100]⟩, .string ⟨#[102, 101, 116, 99, 104]⟩, .string ⟨#[114, 101, 112, 108, 121]⟩, .string ⟨#[100, 97, 116, 97]⟩, .string ⟨#[99, 108, 111, 115, 101]⟩, .string ⟨#[115, 116, 111, 112]⟩, .string ⟨#[99, 114, 97, 115, 104]⟩]
theorem wp_absW {P : Program} {c : Code} {Q : Exit → Act → World → Prop} {a : Act} {w : World} (S : World → Prop) (hS : S w) (h : ∀ w', S w' → c.wp P Q a w') : c.wp P Q a w := h w hS
set_option maxRecDepth 100000 in
set_option maxHeartbeats 1600000 in
theorem dtext_no (e : EvtR) (w : World) (h0 : EvtOK w e) (hp : ShortE e.abs) (hb : rightB e.abs = false) :
    Calls Tryz.prog 14 #[.agg e.cells.toArray] w fun r w' => RetTx r e.abs ∧ Below w.heap.size w w' := by
  have bE := Blk.new w 45 e.cells.toArray
  have B := below_new w (.cells e.cells.toArray 45)
  go_enter Tryz.func14, Tryz.ntmps14
  go_upto_region 1 with (fail)
  generalize w.alloc (.cells e.cells.toArray 45) = w1 at *
  have h := h0.below B
  have hl := load_evt bE
  with_reducible refine wp_region_lit ?_
  with_reducible refine wpList_quiet (C := fun w' => ∃ r, w' = grow w1 r) ⟨w1, (grow_of (Below.refl _ _)).symm⟩ ?_
  with_reducible refine wpQuiet_load (by kernel_rfl) 45 (.tmp 1) rfl (.pointer (some ⟨w.heap.size, 0, none⟩)) (by kernel_rfl) (.agg e.cells.toArray) (by rintro w' ⟨r, rfl⟩; exact hl.out r) ?_
  go_frame
  go_big_quiet_step (first | (go_at_call 32; exact fitC_grow _ _ h hp hb))
  go_big_quiet_step (fail)
  refine wpQuiet_nil ?_
  rintro w' ⟨r, rfl⟩
  have BB := B.trans ((grow_below w1 r).mono B.size)
  clear hl bE
  go_wp2
  go_ret2
  refine ⟨?_, BB⟩
  show _ = _
  unfold textT textE
  rw [hb]
  rfl
theorem ltext_1 (e : EvtR) (ek : e.kind = 1) : numT e.tick ++ [32] ++ kindT 1 ++ [32] ++ wordT e.object ++ [32] ++ spT (metW e.met.abs) ++ [32] ++ wordT e.bytes.l = lineT e.abs := by
  have e0 : lineW e.abs = numT e.tick :: kindT 1 :: (([wordT e.object] ++ (metW e.met.abs ++ ([wordT e.bytes.l] ++ ([]))))) := by simp [lineW, nodeW, bodyW, EvtR.abs, ek]
  unfold lineT
  rw [e0, spT_fl]
  simp only [flT_cons, flT_append, fl_sp (metW_ne _)]
  simp [flT]
theorem ltext_2 (e : EvtR) (ek : e.kind = 2) : numT e.tick ++ [32] ++ kindT 2 ++ [32] ++ wordT e.object ++ [32] ++ wordT e.bytes.l = lineT e.abs := by
  have e0 : lineW e.abs = numT e.tick :: kindT 2 :: (([wordT e.object] ++ ([wordT e.bytes.l] ++ ([])))) := by simp [lineW, nodeW, bodyW, EvtR.abs, ek]
  unfold lineT
  rw [e0, spT_fl]
  simp only [flT_cons, flT_append]
  simp [flT]
theorem ltext_3 (e : EvtR) (ek : e.kind = 3) : numT e.tick ++ [32] ++ kindT 3 ++ [32] ++ wordT e.object = lineT e.abs := by
  have e0 : lineW e.abs = numT e.tick :: kindT 3 :: (([wordT e.object] ++ ([]))) := by simp [lineW, nodeW, bodyW, EvtR.abs, ek]
  unfold lineT
  rw [e0, spT_fl]
  simp only [flT_cons, flT_append]
  simp [flT]
theorem ltext_4 (e : EvtR) (ek : e.kind = 4) : numT e.tick ++ [32] ++ kindT 4 ++ [32] ++ wordT e.object = lineT e.abs := by
  have e0 : lineW e.abs = numT e.tick :: kindT 4 :: (([wordT e.object] ++ ([]))) := by simp [lineW, nodeW, bodyW, EvtR.abs, ek]
  unfold lineT
  rw [e0, spT_fl]
  simp only [flT_cons, flT_append]
  simp [flT]
theorem ltext_5 (e : EvtR) (ek : e.kind = 5) : numT e.tick ++ [32] ++ kindT 5 ++ [32] ++ yesT e.hard ++ [32] ++ spT (textsW e.keys.l) = lineT e.abs := by
  have e0 : lineW e.abs = numT e.tick :: kindT 5 :: (([yesT e.hard] ++ (textsW e.keys.l ++ ([])))) := by simp [lineW, nodeW, bodyW, EvtR.abs, ek]
  unfold lineT
  rw [e0, spT_fl]
  simp only [flT_cons, flT_append, fl_sp (textsW_ne _)]
  simp [flT]
theorem ltext_6 (e : EvtR) (ek : e.kind = 6) : numT e.tick ++ [32] ++ kindT 6 ++ [32] ++ numT e.node ++ [32] ++ numT e.who ++ [32] ++ spT (reqW e.req.abs) = lineT e.abs := by
  have e0 : lineW e.abs = numT e.tick :: kindT 6 :: (([numT e.node] ++ ([numT e.who] ++ (reqW e.req.abs ++ ([]))))) := by simp [lineW, nodeW, bodyW, EvtR.abs, ek]
  unfold lineT
  rw [e0, spT_fl]
  simp only [flT_cons, flT_append, fl_sp (reqW_ne _)]
  simp [flT]
theorem ltext_7 (e : EvtR) (ek : e.kind = 7) : numT e.tick ++ [32] ++ kindT 7 ++ [32] ++ numT e.node ++ [32] ++ numT e.who = lineT e.abs := by
  have e0 : lineW e.abs = numT e.tick :: kindT 7 :: (([numT e.node] ++ ([numT e.who] ++ ([])))) := by simp [lineW, nodeW, bodyW, EvtR.abs, ek]
  unfold lineT
  rw [e0, spT_fl]
  simp only [flT_cons, flT_append]
  simp [flT]
theorem ltext_8 (e : EvtR) (ek : e.kind = 8) : numT e.tick ++ [32] ++ kindT 8 ++ [32] ++ numT e.node ++ [32] ++ numT e.who ++ [32] ++ spT (ansW e.ans.abs) = lineT e.abs := by
  have e0 : lineW e.abs = numT e.tick :: kindT 8 :: (([numT e.node] ++ ([numT e.who] ++ (ansW e.ans.abs ++ ([]))))) := by simp [lineW, nodeW, bodyW, EvtR.abs, ek]
  unfold lineT
  rw [e0, spT_fl]
  simp only [flT_cons, flT_append, fl_sp (ansW_ne _)]
  simp [flT]
theorem ltext_9 (e : EvtR) (ek : e.kind = 9) : numT e.tick ++ [32] ++ kindT 9 ++ [32] ++ numT e.node ++ [32] ++ numT e.who ++ [32] ++ wordT e.bytes.l = lineT e.abs := by
  have e0 : lineW e.abs = numT e.tick :: kindT 9 :: (([numT e.node] ++ ([numT e.who] ++ ([wordT e.bytes.l] ++ ([]))))) := by simp [lineW, nodeW, bodyW, EvtR.abs, ek]
  unfold lineT
  rw [e0, spT_fl]
  simp only [flT_cons, flT_append]
  simp [flT]
theorem ltext_10 (e : EvtR) (ek : e.kind = 10) : numT e.tick ++ [32] ++ kindT 10 ++ [32] ++ numT e.node ++ [32] ++ numT e.who ++ [32] ++ yesT e.whole = lineT e.abs := by
  have e0 : lineW e.abs = numT e.tick :: kindT 10 :: (([numT e.node] ++ ([numT e.who] ++ ([yesT e.whole] ++ ([]))))) := by simp [lineW, nodeW, bodyW, EvtR.abs, ek]
  unfold lineT
  rw [e0, spT_fl]
  simp only [flT_cons, flT_append]
  simp [flT]
theorem ltext_11 (e : EvtR) (ek : e.kind = 11) : numT e.tick ++ [32] ++ kindT 11 ++ [32] ++ numT e.node ++ [32] ++ numT e.who ++ [32] ++ spT (fetW e.fet) = lineT e.abs := by
  have e0 : lineW e.abs = numT e.tick :: kindT 11 :: (([numT e.node] ++ ([numT e.who] ++ (fetW e.fet ++ ([]))))) := by simp [lineW, nodeW, bodyW, EvtR.abs, ek]
  unfold lineT
  rw [e0, spT_fl]
  simp only [flT_cons, flT_append, fl_sp (fetW_ne _)]
  simp [flT]
theorem ltext_12 (e : EvtR) (ek : e.kind = 12) : numT e.tick ++ [32] ++ kindT 12 ++ [32] ++ numT e.node ++ [32] ++ numT e.who ++ [32] ++ spT (repW e.rep.abs) = lineT e.abs := by
  have e0 : lineW e.abs = numT e.tick :: kindT 12 :: (([numT e.node] ++ ([numT e.who] ++ (repW e.rep.abs ++ ([]))))) := by simp [lineW, nodeW, bodyW, EvtR.abs, ek]
  unfold lineT
  rw [e0, spT_fl]
  simp only [flT_cons, flT_append, fl_sp (repW_ne _)]
  simp [flT]
theorem ltext_13 (e : EvtR) (ek : e.kind = 13) : numT e.tick ++ [32] ++ kindT 13 ++ [32] ++ numT e.node ++ [32] ++ numT e.who ++ [32] ++ wordT e.bytes.l = lineT e.abs := by
  have e0 : lineW e.abs = numT e.tick :: kindT 13 :: (([numT e.node] ++ ([numT e.who] ++ ([wordT e.bytes.l] ++ ([]))))) := by simp [lineW, nodeW, bodyW, EvtR.abs, ek]
  unfold lineT
  rw [e0, spT_fl]
  simp only [flT_cons, flT_append]
  simp [flT]
theorem ltext_14 (e : EvtR) (ek : e.kind = 14) : numT e.tick ++ [32] ++ kindT 14 ++ [32] ++ numT e.node ++ [32] ++ numT e.who ++ [32] ++ yesT e.whole = lineT e.abs := by
  have e0 : lineW e.abs = numT e.tick :: kindT 14 :: (([numT e.node] ++ ([numT e.who] ++ ([yesT e.whole] ++ ([]))))) := by simp [lineW, nodeW, bodyW, EvtR.abs, ek]
  unfold lineT
  rw [e0, spT_fl]
  simp only [flT_cons, flT_append]
  simp [flT]
theorem ltext_15 (e : EvtR) (ek : e.kind = 15) : numT e.tick ++ [32] ++ kindT 15 ++ [32] ++ numT e.node ++ [32] ++ numT e.who = lineT e.abs := by
  have e0 : lineW e.abs = numT e.tick :: kindT 15 :: (([numT e.node] ++ ([numT e.who] ++ ([])))) := by simp [lineW, nodeW, bodyW, EvtR.abs, ek]
  unfold lineT
  rw [e0, spT_fl]
  simp only [flT_cons, flT_append]
  simp [flT]
theorem ltext_16 (e : EvtR) (ek : e.kind = 16) : numT e.tick ++ [32] ++ kindT 16 ++ [32] ++ numT e.node = lineT e.abs := by
  have e0 : lineW e.abs = numT e.tick :: kindT 16 :: (([numT e.node] ++ ([]))) := by simp [lineW, nodeW, bodyW, EvtR.abs, ek]
  unfold lineT
  rw [e0, spT_fl]
  simp only [flT_cons, flT_append]
  simp [flT]
set_option maxRecDepth 100000 in
set_option maxHeartbeats 40000000 in
theorem dtext_yes (e : EvtR) (w : World) (h0 : EvtOK w e) (hp : ShortE e.abs) (hk : e.kind = 1 ∨ e.kind = 2 ∨ e.kind = 3 ∨ e.kind = 4 ∨ e.kind = 5 ∨ e.kind = 6 ∨ e.kind = 7 ∨ e.kind = 8 ∨ e.kind = 9 ∨ e.kind = 10 ∨ e.kind = 11 ∨ e.kind = 12 ∨ e.kind = 13 ∨ e.kind = 14 ∨ e.kind = 15 ∨ e.kind = 16) (hb : rightB e.abs = true) :
    Calls Tryz.prog 14 #[.agg e.cells.toArray] w fun r w' => RetTx r e.abs ∧ Below w.heap.size w w' := by
  have bE0 := Blk.new w 45 e.cells.toArray
  have B0 := below_new w (.cells e.cells.toArray 45)
  go_enter Tryz.func14, Tryz.ntmps14
  go_upto_region 1 with (fail)
  generalize w.alloc (.cells e.cells.toArray 45) = w1 at *
  have h1 := h0.below B0
  have hl := load_evt bE0
  with_reducible refine wp_region_lit ?_
  with_reducible refine wpList_quiet (C := fun w' => ∃ r, w' = grow w1 r) ⟨w1, (grow_of (Below.refl _ _)).symm⟩ ?_
  with_reducible refine wpQuiet_load (by kernel_rfl) 45 (.tmp 1) rfl (.pointer (some ⟨w.heap.size, 0, none⟩)) (by kernel_rfl) (.agg e.cells.toArray) (by rintro w' ⟨r, rfl⟩; exact hl.out r) ?_
  go_frame
  go_big_quiet_step (first | (go_at_call 32; exact fitC_grow _ _ h1 hp hb))
  go_big_quiet_step (fail)
  refine wpQuiet_nil ?_
  rintro w' ⟨r, rfl⟩
  have B1 := B0.trans ((grow_below w1 r).mono B0.size)
  have bE1 := bE0.below (grow_below w1 r) bE0.lt
  have h2 := h1.below (grow_below w1 r)
  clear hl bE0 B0 h1
  generalize grow w1 r = w1 at *
  go_upto_region 4 with (fail)
  have bN := Blk.new w1 9 (namesV).toArray
  have B := B1.trans ((below_new w1 (.cells (namesV).toArray 9)).mono B1.size)
  have bE := bE1.alloc (.cells (namesV).toArray 9)
  have h := h2.below (below_new w1 (.cells (namesV).toArray 9))
  clear B1 bE1 h2
  refine wp_absW (fun w2 => Blk w2 w1.heap.size 9 namesV.toArray ∧ Below w.heap.size w w2 ∧ Blk w2 w.heap.size 45 e.cells.toArray ∧ EvtOK w2 e) ⟨bN, B, bE, h⟩ ?_
  clear bN B bE h
  rintro w2 ⟨bN, B, bE, h⟩
  rcases hk with ek | ek | ek | ek | ek | ek | ek | ek | ek | ek | ek | ek | ek | ek | ek | ek
  case' inl =>
    have l0 : (numT e.tick).length ≤ 1000000 := numT_len h.tick
    have l1 := kindT_len 1
    have l2 : (wordT e.object).length ≤ 1000000 := wordT_len hp.object
    have l3 : Sml (spT (metW e.met.abs)) := sml_lw (met_lw hp.met) (by decide)
    unfold Sml at l3
    have l4 : (wordT e.bytes.l).length ≤ 1000000 := wordT_len hp.bytes
    have x0 := growc (bE.at_ (i := 0) (v := .int .i64 1) (by rw [← ek]; rfl))
    refine wp_region_grow (by kernel_rfl) (by kernel_rfl) ?_
    go_big_quiet_step (fail)
    have c1 := growc (bE.at_ (i := 1) (v := .int .i64 e.tick) rfl)
    go_big_quiet_step (fail)
    clear c1
    go_big_quiet_step (first | (go_at_call 33; exact numC_grow h.tick _ _))
    with_reducible refine wqA (.tmp 12) spO rfl (numT e.tick) ([32]) ?_
    go_frame
    go_big_quiet_step (fail)
    go_big_quiet_step (fail)
    have c0 := growc (bE.at_ (i := 0) (v := .int .i64 1) (by rw [← ek]; rfl))
    go_big_quiet_step (fail)
    clear c0
    go_big_quiet_step (fail)
    go_big_quiet_step (fail)
    have cn := growc (bN.at_ (i := 0) (v := .string (bstr (kindT 1))) (by kernel_rfl))
    go_big_quiet_step (fail)
    clear cn
    with_reducible refine wqA (.tmp 13) (.tmp 19) rfl (numT e.tick ++ [32]) (kindT 1) ?_
    go_frame
    go_big_quiet_step (fail)
    refine wpQuiet_nil ?_
    rintro w' ⟨r, rfl⟩
    go_upto_region 11 with (fail)
    refine wp_region_growIn (w1 := w2) (by kernel_rfl) (by kernel_rfl) ?_
    go_big_quiet_step (fail)
    with_reducible refine wqA (.tmp 48) spO rfl (numT e.tick ++ [32] ++ kindT 1) ([32]) ?_
    go_frame
    go_big_quiet_step (fail)
    have c4 := growc (bE.at_ (i := 4) (v := .string (bstr e.object)) rfl)
    go_big_quiet_step (fail)
    clear c4
    go_big_quiet_step (first | (go_at_call 34; exact wordC_grow hp.object _ _))
    with_reducible refine wqA (.tmp 49) (.tmp 52) rfl (numT e.tick ++ [32] ++ kindT 1 ++ [32]) (wordT e.object) ?_
    go_frame
    with_reducible refine wqA (.tmp 53) spO rfl (numT e.tick ++ [32] ++ kindT 1 ++ [32] ++ wordT e.object) ([32]) ?_
    go_frame
    go_big_quiet_step (fail)
    have c16 := growc (bE.at_ (i := 16) (v := .string (bstr e.met.tag.text)) rfl)
    have c17 := growc (bE.at_ (i := 17) (v := .bool e.met.tag.weak) rfl)
    have c18 := growc (bE.at_ (i := 18) (v := .int .i64 e.met.modi) rfl)
    have c19 := growc (bE.at_ (i := 19) (v := .int .i64 e.met.len) rfl)
    have c20 := growc (bE.at_ (i := 20) (v := .int .i64 e.met.have_) rfl)
    have c21 := growc (bE.at_ (i := 21) (v := .int .i64 e.met.fresh) rfl)
    have c22 := growc (bE.at_ (i := 22) (v := .int .i64 e.met.while_) rfl)
    have c23 := growc (bE.at_ (i := 23) (v := .int .i64 e.met.error) rfl)
    have c24 := growc (bE.at_ (i := 24) (v := .slice e.met.keys.A e.met.keys.l.length e.met.keys.cap) rfl)
    have c25 := growc (bE.at_ (i := 25) (v := .string (bstr e.met.tenant)) rfl)
    have c26 := growc (bE.at_ (i := 26) (v := .bool e.met.keep) rfl)
    go_big_quiet_step (fail)
    clear c16 c17 c18 c19 c20 c21 c22 c23 c24 c25 c26
    go_big_quiet_step (first | (go_at_call 35; exact metaC_grow _ _ h.met hp.met))
    with_reducible refine wqA (.tmp 54) (.tmp 57) rfl (numT e.tick ++ [32] ++ kindT 1 ++ [32] ++ wordT e.object ++ [32]) (spT (metW e.met.abs)) ?_
    go_frame
    with_reducible refine wqA (.tmp 58) spO rfl (numT e.tick ++ [32] ++ kindT 1 ++ [32] ++ wordT e.object ++ [32] ++ spT (metW e.met.abs)) ([32]) ?_
    go_frame
    go_big_quiet_step (fail)
    have c53 := growc (bE.at_ (i := 53) (v := .slice e.bytes.A e.bytes.l.length e.bytes.cap) rfl)
    go_big_quiet_step (fail)
    clear c53
    have cv := cvR w2 h.bytes
    go_big_quiet_step (fail)
    clear cv
    go_big_quiet_step (first | (go_at_call 34; exact wordC_grow hp.bytes _ _))
    with_reducible refine wqA (.tmp 59) (.tmp 63) rfl (numT e.tick ++ [32] ++ kindT 1 ++ [32] ++ wordT e.object ++ [32] ++ spT (metW e.met.abs) ++ [32]) (wordT e.bytes.l) ?_
    go_frame
    go_big_quiet_step (fail)
    refine wpQuiet_nil ?_
    rintro w' ⟨r, rfl⟩
    have hT := ltext_1 e ek
    have BB := B.trans ((grow_below w2 r).mono B.size)
    rw [hT]
    clear l0 l1 l2 l3 l4 ek
  case' inr.inl =>
    have l0 : (numT e.tick).length ≤ 1000000 := numT_len h.tick
    have l1 := kindT_len 2
    have l2 : (wordT e.object).length ≤ 1000000 := wordT_len hp.object
    have l3 : (wordT e.bytes.l).length ≤ 1000000 := wordT_len hp.bytes
    have x0 := growc (bE.at_ (i := 0) (v := .int .i64 2) (by rw [← ek]; rfl))
    refine wp_region_grow (by kernel_rfl) (by kernel_rfl) ?_
    go_big_quiet_step (fail)
    have c1 := growc (bE.at_ (i := 1) (v := .int .i64 e.tick) rfl)
    go_big_quiet_step (fail)
    clear c1
    go_big_quiet_step (first | (go_at_call 33; exact numC_grow h.tick _ _))
    with_reducible refine wqA (.tmp 12) spO rfl (numT e.tick) ([32]) ?_
    go_frame
    go_big_quiet_step (fail)
    go_big_quiet_step (fail)
    have c0 := growc (bE.at_ (i := 0) (v := .int .i64 2) (by rw [← ek]; rfl))
    go_big_quiet_step (fail)
    clear c0
    go_big_quiet_step (fail)
    go_big_quiet_step (fail)
    have cn := growc (bN.at_ (i := 1) (v := .string (bstr (kindT 2))) (by kernel_rfl))
    go_big_quiet_step (fail)
    clear cn
    with_reducible refine wqA (.tmp 13) (.tmp 19) rfl (numT e.tick ++ [32]) (kindT 2) ?_
    go_frame
    go_big_quiet_step (fail)
    refine wpQuiet_nil ?_
    rintro w' ⟨r, rfl⟩
    go_upto_region 13 with (fail)
    refine wp_region_growIn (w1 := w2) (by kernel_rfl) (by kernel_rfl) ?_
    go_big_quiet_step (fail)
    with_reducible refine wqA (.tmp 67) spO rfl (numT e.tick ++ [32] ++ kindT 2) ([32]) ?_
    go_frame
    go_big_quiet_step (fail)
    have c4 := growc (bE.at_ (i := 4) (v := .string (bstr e.object)) rfl)
    go_big_quiet_step (fail)
    clear c4
    go_big_quiet_step (first | (go_at_call 34; exact wordC_grow hp.object _ _))
    with_reducible refine wqA (.tmp 68) (.tmp 71) rfl (numT e.tick ++ [32] ++ kindT 2 ++ [32]) (wordT e.object) ?_
    go_frame
    with_reducible refine wqA (.tmp 72) spO rfl (numT e.tick ++ [32] ++ kindT 2 ++ [32] ++ wordT e.object) ([32]) ?_
    go_frame
    go_big_quiet_step (fail)
    have c53 := growc (bE.at_ (i := 53) (v := .slice e.bytes.A e.bytes.l.length e.bytes.cap) rfl)
    go_big_quiet_step (fail)
    clear c53
    have cv := cvR w2 h.bytes
    go_big_quiet_step (fail)
    clear cv
    go_big_quiet_step (first | (go_at_call 34; exact wordC_grow hp.bytes _ _))
    with_reducible refine wqA (.tmp 73) (.tmp 77) rfl (numT e.tick ++ [32] ++ kindT 2 ++ [32] ++ wordT e.object ++ [32]) (wordT e.bytes.l) ?_
    go_frame
    go_big_quiet_step (fail)
    refine wpQuiet_nil ?_
    rintro w' ⟨r, rfl⟩
    have hT := ltext_2 e ek
    have BB := B.trans ((grow_below w2 r).mono B.size)
    rw [hT]
    clear l0 l1 l2 l3 ek
  case' inr.inr.inl =>
    have l0 : (numT e.tick).length ≤ 1000000 := numT_len h.tick
    have l1 := kindT_len 3
    have l2 : (wordT e.object).length ≤ 1000000 := wordT_len hp.object
    have x0 := growc (bE.at_ (i := 0) (v := .int .i64 3) (by rw [← ek]; rfl))
    refine wp_region_grow (by kernel_rfl) (by kernel_rfl) ?_
    go_big_quiet_step (fail)
    have c1 := growc (bE.at_ (i := 1) (v := .int .i64 e.tick) rfl)
    go_big_quiet_step (fail)
    clear c1
    go_big_quiet_step (first | (go_at_call 33; exact numC_grow h.tick _ _))
    with_reducible refine wqA (.tmp 12) spO rfl (numT e.tick) ([32]) ?_
    go_frame
    go_big_quiet_step (fail)
    go_big_quiet_step (fail)
    have c0 := growc (bE.at_ (i := 0) (v := .int .i64 3) (by rw [← ek]; rfl))
    go_big_quiet_step (fail)
    clear c0
    go_big_quiet_step (fail)
    go_big_quiet_step (fail)
    have cn := growc (bN.at_ (i := 2) (v := .string (bstr (kindT 3))) (by kernel_rfl))
    go_big_quiet_step (fail)
    clear cn
    with_reducible refine wqA (.tmp 13) (.tmp 19) rfl (numT e.tick ++ [32]) (kindT 3) ?_
    go_frame
    go_big_quiet_step (fail)
    refine wpQuiet_nil ?_
    rintro w' ⟨r, rfl⟩
    go_upto_region 16 with (fail)
    with_reducible refine wp_region_lit ?_
    with_reducible refine wpList_quiet (C := fun w' => ∃ r, w' = grow w2 r) ⟨_, rfl⟩ ?_
    go_big_quiet_step (fail)
    with_reducible refine wqA (.tmp 82) spO rfl (numT e.tick ++ [32] ++ kindT 3) ([32]) ?_
    go_frame
    go_big_quiet_step (fail)
    have c4 := growc (bE.at_ (i := 4) (v := .string (bstr e.object)) rfl)
    go_big_quiet_step (fail)
    clear c4
    go_big_quiet_step (first | (go_at_call 34; exact wordC_grow hp.object _ _))
    with_reducible refine wqA (.tmp 83) (.tmp 86) rfl (numT e.tick ++ [32] ++ kindT 3 ++ [32]) (wordT e.object) ?_
    go_frame
    go_big_quiet_step (fail)
    refine wpQuiet_nil ?_
    rintro w' ⟨r, rfl⟩
    have hT := ltext_3 e ek
    have BB := B.trans ((grow_below w2 r).mono B.size)
    rw [hT]
    clear l0 l1 l2 ek
  case' inr.inr.inr.inl =>
    have l0 : (numT e.tick).length ≤ 1000000 := numT_len h.tick
    have l1 := kindT_len 4
    have l2 : (wordT e.object).length ≤ 1000000 := wordT_len hp.object
    have x0 := growc (bE.at_ (i := 0) (v := .int .i64 4) (by rw [← ek]; rfl))
    refine wp_region_grow (by kernel_rfl) (by kernel_rfl) ?_
    go_big_quiet_step (fail)
    have c1 := growc (bE.at_ (i := 1) (v := .int .i64 e.tick) rfl)
    go_big_quiet_step (fail)
    clear c1
    go_big_quiet_step (first | (go_at_call 33; exact numC_grow h.tick _ _))
    with_reducible refine wqA (.tmp 12) spO rfl (numT e.tick) ([32]) ?_
    go_frame
    go_big_quiet_step (fail)
    go_big_quiet_step (fail)
    have c0 := growc (bE.at_ (i := 0) (v := .int .i64 4) (by rw [← ek]; rfl))
    go_big_quiet_step (fail)
    clear c0
    go_big_quiet_step (fail)
    go_big_quiet_step (fail)
    have cn := growc (bN.at_ (i := 3) (v := .string (bstr (kindT 4))) (by kernel_rfl))
    go_big_quiet_step (fail)
    clear cn
    with_reducible refine wqA (.tmp 13) (.tmp 19) rfl (numT e.tick ++ [32]) (kindT 4) ?_
    go_frame
    go_big_quiet_step (fail)
    refine wpQuiet_nil ?_
    rintro w' ⟨r, rfl⟩
    go_upto_region 16 with (fail)
    with_reducible refine wp_region_lit ?_
    with_reducible refine wpList_quiet (C := fun w' => ∃ r, w' = grow w2 r) ⟨_, rfl⟩ ?_
    go_big_quiet_step (fail)
    with_reducible refine wqA (.tmp 82) spO rfl (numT e.tick ++ [32] ++ kindT 4) ([32]) ?_
    go_frame
    go_big_quiet_step (fail)
    have c4 := growc (bE.at_ (i := 4) (v := .string (bstr e.object)) rfl)
    go_big_quiet_step (fail)
    clear c4
    go_big_quiet_step (first | (go_at_call 34; exact wordC_grow hp.object _ _))
    with_reducible refine wqA (.tmp 83) (.tmp 86) rfl (numT e.tick ++ [32] ++ kindT 4 ++ [32]) (wordT e.object) ?_
    go_frame
    go_big_quiet_step (fail)
    refine wpQuiet_nil ?_
    rintro w' ⟨r, rfl⟩
    have hT := ltext_4 e ek
    have BB := B.trans ((grow_below w2 r).mono B.size)
    rw [hT]
    clear l0 l1 l2 ek
  case' inr.inr.inr.inr.inl =>
    have l0 : (numT e.tick).length ≤ 1000000 := numT_len h.tick
    have l1 := kindT_len 5
    have l2 : (yesT e.hard).length ≤ 1000000 := yesT_len _
    have l3 : Sml (spT (textsW e.keys.l)) := sml_lw (texts_lw hp.keys) (by decide)
    unfold Sml at l3
    have x0 := growc (bE.at_ (i := 0) (v := .int .i64 5) (by rw [← ek]; rfl))
    refine wp_region_grow (by kernel_rfl) (by kernel_rfl) ?_
    go_big_quiet_step (fail)
    have c1 := growc (bE.at_ (i := 1) (v := .int .i64 e.tick) rfl)
    go_big_quiet_step (fail)
    clear c1
    go_big_quiet_step (first | (go_at_call 33; exact numC_grow h.tick _ _))
    with_reducible refine wqA (.tmp 12) spO rfl (numT e.tick) ([32]) ?_
    go_frame
    go_big_quiet_step (fail)
    go_big_quiet_step (fail)
    have c0 := growc (bE.at_ (i := 0) (v := .int .i64 5) (by rw [← ek]; rfl))
    go_big_quiet_step (fail)
    clear c0
    go_big_quiet_step (fail)
    go_big_quiet_step (fail)
    have cn := growc (bN.at_ (i := 4) (v := .string (bstr (kindT 5))) (by kernel_rfl))
    go_big_quiet_step (fail)
    clear cn
    with_reducible refine wqA (.tmp 13) (.tmp 19) rfl (numT e.tick ++ [32]) (kindT 5) ?_
    go_frame
    go_big_quiet_step (fail)
    refine wpQuiet_nil ?_
    rintro w' ⟨r, rfl⟩
    go_upto_region 18 with (fail)
    refine wp_region_growIn (w1 := w2) (by kernel_rfl) (by kernel_rfl) ?_
    go_big_quiet_step (fail)
    with_reducible refine wqA (.tmp 90) spO rfl (numT e.tick ++ [32] ++ kindT 5) ([32]) ?_
    go_frame
    go_big_quiet_step (fail)
    have c55 := growc (bE.at_ (i := 55) (v := .bool e.hard) rfl)
    go_big_quiet_step (fail)
    clear c55
    go_big_quiet_step (first | (go_at_call 36; exact yesC_grow e.hard _ _))
    with_reducible refine wqA (.tmp 91) (.tmp 94) rfl (numT e.tick ++ [32] ++ kindT 5 ++ [32]) (yesT e.hard) ?_
    go_frame
    with_reducible refine wqA (.tmp 95) spO rfl (numT e.tick ++ [32] ++ kindT 5 ++ [32] ++ yesT e.hard) ([32]) ?_
    go_frame
    go_big_quiet_step (fail)
    have c54 := growc (bE.at_ (i := 54) (v := .slice e.keys.A e.keys.l.length e.keys.cap) rfl)
    go_big_quiet_step (fail)
    clear c54
    go_big_quiet_step (first | (go_at_call 37; exact textsC_grow _ _ h.keys.rv hp.keys))
    with_reducible refine wqA (.tmp 96) (.tmp 99) rfl (numT e.tick ++ [32] ++ kindT 5 ++ [32] ++ yesT e.hard ++ [32]) (spT (textsW e.keys.l)) ?_
    go_frame
    go_big_quiet_step (fail)
    refine wpQuiet_nil ?_
    rintro w' ⟨r, rfl⟩
    have hT := ltext_5 e ek
    have BB := B.trans ((grow_below w2 r).mono B.size)
    rw [hT]
    clear l0 l1 l2 l3 ek
  case' inr.inr.inr.inr.inr.inl =>
    have l0 : (numT e.tick).length ≤ 1000000 := numT_len h.tick
    have l1 := kindT_len 6
    have l2 : (numT e.node).length ≤ 1000000 := numT_len h.node
    have l3 : (numT e.who).length ≤ 1000000 := numT_len h.who
    have l4 : Sml (spT (reqW e.req.abs)) := sml_lw (req_lw hp.req) (by decide)
    unfold Sml at l4
    have x0 := growc (bE.at_ (i := 0) (v := .int .i64 6) (by rw [← ek]; rfl))
    refine wp_region_grow (by kernel_rfl) (by kernel_rfl) ?_
    go_big_quiet_step (fail)
    have c1 := growc (bE.at_ (i := 1) (v := .int .i64 e.tick) rfl)
    go_big_quiet_step (fail)
    clear c1
    go_big_quiet_step (first | (go_at_call 33; exact numC_grow h.tick _ _))
    with_reducible refine wqA (.tmp 12) spO rfl (numT e.tick) ([32]) ?_
    go_frame
    go_big_quiet_step (fail)
    go_big_quiet_step (fail)
    have c0 := growc (bE.at_ (i := 0) (v := .int .i64 6) (by rw [← ek]; rfl))
    go_big_quiet_step (fail)
    clear c0
    go_big_quiet_step (fail)
    go_big_quiet_step (fail)
    have cn := growc (bN.at_ (i := 5) (v := .string (bstr (kindT 6))) (by kernel_rfl))
    go_big_quiet_step (fail)
    clear cn
    with_reducible refine wqA (.tmp 13) (.tmp 19) rfl (numT e.tick ++ [32]) (kindT 6) ?_
    go_frame
    go_big_quiet_step (fail)
    refine wpQuiet_nil ?_
    rintro w' ⟨r, rfl⟩
    go_upto_region 6 with (fail)
    with_reducible refine wp_region_lit ?_
    with_reducible refine wpList_quiet (C := fun w' => ∃ r, w' = grow w2 r) ⟨_, rfl⟩ ?_
    go_big_quiet_step (fail)
    with_reducible refine wqA (.tmp 24) spO rfl (numT e.tick ++ [32] ++ kindT 6) ([32]) ?_
    go_frame
    go_big_quiet_step (fail)
    have c2 := growc (bE.at_ (i := 2) (v := .int .i64 e.node) rfl)
    go_big_quiet_step (fail)
    clear c2
    go_big_quiet_step (first | (go_at_call 33; exact numC_grow h.node _ _))
    with_reducible refine wqA (.tmp 25) (.tmp 28) rfl (numT e.tick ++ [32] ++ kindT 6 ++ [32]) (numT e.node) ?_
    go_frame
    go_big_quiet_step (fail)
    refine wpQuiet_nil ?_
    rintro w' ⟨r, rfl⟩
    go_upto_region 8 with (fail)
    with_reducible refine wp_region_lit ?_
    with_reducible refine wpList_quiet (C := fun w' => ∃ r, w' = grow w2 r) ⟨_, rfl⟩ ?_
    go_big_quiet_step (fail)
    with_reducible refine wqA (.tmp 38) spO rfl (numT e.tick ++ [32] ++ kindT 6 ++ [32] ++ numT e.node) ([32]) ?_
    go_frame
    go_big_quiet_step (fail)
    have c3 := growc (bE.at_ (i := 3) (v := .int .i64 e.who) rfl)
    go_big_quiet_step (fail)
    clear c3
    go_big_quiet_step (first | (go_at_call 33; exact numC_grow h.who _ _))
    with_reducible refine wqA (.tmp 39) (.tmp 42) rfl (numT e.tick ++ [32] ++ kindT 6 ++ [32] ++ numT e.node ++ [32]) (numT e.who) ?_
    go_frame
    go_big_quiet_step (fail)
    refine wpQuiet_nil ?_
    rintro w' ⟨r, rfl⟩
    go_upto_region 20 with (fail)
    with_reducible refine wp_region_lit ?_
    with_reducible refine wpList_quiet (C := fun w' => ∃ r, w' = grow w2 r) ⟨_, rfl⟩ ?_
    go_big_quiet_step (fail)
    with_reducible refine wqA (.tmp 103) spO rfl (numT e.tick ++ [32] ++ kindT 6 ++ [32] ++ numT e.node ++ [32] ++ numT e.who) ([32]) ?_
    go_frame
    go_big_quiet_step (fail)
    have c5 := growc (bE.at_ (i := 5) (v := .bool e.req.head) rfl)
    have c6 := growc (bE.at_ (i := 6) (v := .string (bstr e.req.object)) rfl)
    have c7 := growc (bE.at_ (i := 7) (v := .slice e.req.specs.A e.req.specs.l.length e.req.specs.cap) rfl)
    have c8 := growc (bE.at_ (i := 8) (v := .slice e.req.mtch.A e.req.mtch.l.length e.req.mtch.cap) rfl)
    have c9 := growc (bE.at_ (i := 9) (v := .slice e.req.non.A e.req.non.l.length e.req.non.cap) rfl)
    have c10 := growc (bE.at_ (i := 10) (v := .bool e.req.anyM) rfl)
    have c11 := growc (bE.at_ (i := 11) (v := .bool e.req.anyN) rfl)
    have c12 := growc (bE.at_ (i := 12) (v := .int .i64 e.req.since) rfl)
    have c13 := growc (bE.at_ (i := 13) (v := .int .i64 e.req.unless_) rfl)
    have c14 := growc (bE.at_ (i := 14) (v := .string (bstr e.req.range.text)) rfl)
    have c15 := growc (bE.at_ (i := 15) (v := .bool e.req.range.weak) rfl)
    go_big_quiet_step (fail)
    clear c5 c6 c7 c8 c9 c10 c11 c12 c13 c14 c15
    go_big_quiet_step (first | (go_at_call 38; exact reqC_grow _ _ h.req hp.req))
    with_reducible refine wqA (.tmp 104) (.tmp 107) rfl (numT e.tick ++ [32] ++ kindT 6 ++ [32] ++ numT e.node ++ [32] ++ numT e.who ++ [32]) (spT (reqW e.req.abs)) ?_
    go_frame
    go_big_quiet_step (fail)
    refine wpQuiet_nil ?_
    rintro w' ⟨r, rfl⟩
    have hT := ltext_6 e ek
    have BB := B.trans ((grow_below w2 r).mono B.size)
    rw [hT]
    clear l0 l1 l2 l3 l4 ek
  case' inr.inr.inr.inr.inr.inr.inl =>
    have l0 : (numT e.tick).length ≤ 1000000 := numT_len h.tick
    have l1 := kindT_len 7
    have l2 : (numT e.node).length ≤ 1000000 := numT_len h.node
    have l3 : (numT e.who).length ≤ 1000000 := numT_len h.who
    have x0 := growc (bE.at_ (i := 0) (v := .int .i64 7) (by rw [← ek]; rfl))
    refine wp_region_grow (by kernel_rfl) (by kernel_rfl) ?_
    go_big_quiet_step (fail)
    have c1 := growc (bE.at_ (i := 1) (v := .int .i64 e.tick) rfl)
    go_big_quiet_step (fail)
    clear c1
    go_big_quiet_step (first | (go_at_call 33; exact numC_grow h.tick _ _))
    with_reducible refine wqA (.tmp 12) spO rfl (numT e.tick) ([32]) ?_
    go_frame
    go_big_quiet_step (fail)
    go_big_quiet_step (fail)
    have c0 := growc (bE.at_ (i := 0) (v := .int .i64 7) (by rw [← ek]; rfl))
    go_big_quiet_step (fail)
    clear c0
    go_big_quiet_step (fail)
    go_big_quiet_step (fail)
    have cn := growc (bN.at_ (i := 6) (v := .string (bstr (kindT 7))) (by kernel_rfl))
    go_big_quiet_step (fail)
    clear cn
    with_reducible refine wqA (.tmp 13) (.tmp 19) rfl (numT e.tick ++ [32]) (kindT 7) ?_
    go_frame
    go_big_quiet_step (fail)
    refine wpQuiet_nil ?_
    rintro w' ⟨r, rfl⟩
    go_upto_region 6 with (fail)
    with_reducible refine wp_region_lit ?_
    with_reducible refine wpList_quiet (C := fun w' => ∃ r, w' = grow w2 r) ⟨_, rfl⟩ ?_
    go_big_quiet_step (fail)
    with_reducible refine wqA (.tmp 24) spO rfl (numT e.tick ++ [32] ++ kindT 7) ([32]) ?_
    go_frame
    go_big_quiet_step (fail)
    have c2 := growc (bE.at_ (i := 2) (v := .int .i64 e.node) rfl)
    go_big_quiet_step (fail)
    clear c2
    go_big_quiet_step (first | (go_at_call 33; exact numC_grow h.node _ _))
    with_reducible refine wqA (.tmp 25) (.tmp 28) rfl (numT e.tick ++ [32] ++ kindT 7 ++ [32]) (numT e.node) ?_
    go_frame
    go_big_quiet_step (fail)
    refine wpQuiet_nil ?_
    rintro w' ⟨r, rfl⟩
    go_upto_region 8 with (fail)
    with_reducible refine wp_region_lit ?_
    with_reducible refine wpList_quiet (C := fun w' => ∃ r, w' = grow w2 r) ⟨_, rfl⟩ ?_
    go_big_quiet_step (fail)
    with_reducible refine wqA (.tmp 38) spO rfl (numT e.tick ++ [32] ++ kindT 7 ++ [32] ++ numT e.node) ([32]) ?_
    go_frame
    go_big_quiet_step (fail)
    have c3 := growc (bE.at_ (i := 3) (v := .int .i64 e.who) rfl)
    go_big_quiet_step (fail)
    clear c3
    go_big_quiet_step (first | (go_at_call 33; exact numC_grow h.who _ _))
    with_reducible refine wqA (.tmp 39) (.tmp 42) rfl (numT e.tick ++ [32] ++ kindT 7 ++ [32] ++ numT e.node ++ [32]) (numT e.who) ?_
    go_frame
    go_big_quiet_step (fail)
    refine wpQuiet_nil ?_
    rintro w' ⟨r, rfl⟩
    have hT := ltext_7 e ek
    have BB := B.trans ((grow_below w2 r).mono B.size)
    rw [hT]
    clear l0 l1 l2 l3 ek
  case' inr.inr.inr.inr.inr.inr.inr.inl =>
    have l0 : (numT e.tick).length ≤ 1000000 := numT_len h.tick
    have l1 := kindT_len 8
    have l2 : (numT e.node).length ≤ 1000000 := numT_len h.node
    have l3 : (numT e.who).length ≤ 1000000 := numT_len h.who
    have l4 : Sml (spT (ansW e.ans.abs)) := sml_lw (ans_lw hp.ans) (by decide)
    unfold Sml at l4
    have x0 := growc (bE.at_ (i := 0) (v := .int .i64 8) (by rw [← ek]; rfl))
    refine wp_region_grow (by kernel_rfl) (by kernel_rfl) ?_
    go_big_quiet_step (fail)
    have c1 := growc (bE.at_ (i := 1) (v := .int .i64 e.tick) rfl)
    go_big_quiet_step (fail)
    clear c1
    go_big_quiet_step (first | (go_at_call 33; exact numC_grow h.tick _ _))
    with_reducible refine wqA (.tmp 12) spO rfl (numT e.tick) ([32]) ?_
    go_frame
    go_big_quiet_step (fail)
    go_big_quiet_step (fail)
    have c0 := growc (bE.at_ (i := 0) (v := .int .i64 8) (by rw [← ek]; rfl))
    go_big_quiet_step (fail)
    clear c0
    go_big_quiet_step (fail)
    go_big_quiet_step (fail)
    have cn := growc (bN.at_ (i := 7) (v := .string (bstr (kindT 8))) (by kernel_rfl))
    go_big_quiet_step (fail)
    clear cn
    with_reducible refine wqA (.tmp 13) (.tmp 19) rfl (numT e.tick ++ [32]) (kindT 8) ?_
    go_frame
    go_big_quiet_step (fail)
    refine wpQuiet_nil ?_
    rintro w' ⟨r, rfl⟩
    go_upto_region 6 with (fail)
    with_reducible refine wp_region_lit ?_
    with_reducible refine wpList_quiet (C := fun w' => ∃ r, w' = grow w2 r) ⟨_, rfl⟩ ?_
    go_big_quiet_step (fail)
    with_reducible refine wqA (.tmp 24) spO rfl (numT e.tick ++ [32] ++ kindT 8) ([32]) ?_
    go_frame
    go_big_quiet_step (fail)
    have c2 := growc (bE.at_ (i := 2) (v := .int .i64 e.node) rfl)
    go_big_quiet_step (fail)
    clear c2
    go_big_quiet_step (first | (go_at_call 33; exact numC_grow h.node _ _))
    with_reducible refine wqA (.tmp 25) (.tmp 28) rfl (numT e.tick ++ [32] ++ kindT 8 ++ [32]) (numT e.node) ?_
    go_frame
    go_big_quiet_step (fail)
    refine wpQuiet_nil ?_
    rintro w' ⟨r, rfl⟩
    go_upto_region 8 with (fail)
    with_reducible refine wp_region_lit ?_
    with_reducible refine wpList_quiet (C := fun w' => ∃ r, w' = grow w2 r) ⟨_, rfl⟩ ?_
    go_big_quiet_step (fail)
    with_reducible refine wqA (.tmp 38) spO rfl (numT e.tick ++ [32] ++ kindT 8 ++ [32] ++ numT e.node) ([32]) ?_
    go_frame
    go_big_quiet_step (fail)
    have c3 := growc (bE.at_ (i := 3) (v := .int .i64 e.who) rfl)
    go_big_quiet_step (fail)
    clear c3
    go_big_quiet_step (first | (go_at_call 33; exact numC_grow h.who _ _))
    with_reducible refine wqA (.tmp 39) (.tmp 42) rfl (numT e.tick ++ [32] ++ kindT 8 ++ [32] ++ numT e.node ++ [32]) (numT e.who) ?_
    go_frame
    go_big_quiet_step (fail)
    refine wpQuiet_nil ?_
    rintro w' ⟨r, rfl⟩
    go_upto_region 22 with (fail)
    with_reducible refine wp_region_lit ?_
    with_reducible refine wpList_quiet (C := fun w' => ∃ r, w' = grow w2 r) ⟨_, rfl⟩ ?_
    go_big_quiet_step (fail)
    with_reducible refine wqA (.tmp 111) spO rfl (numT e.tick ++ [32] ++ kindT 8 ++ [32] ++ numT e.node ++ [32] ++ numT e.who) ([32]) ?_
    go_frame
    go_big_quiet_step (fail)
    have c27 := growc (bE.at_ (i := 27) (v := .int .i64 e.ans.status) rfl)
    have c28 := growc (bE.at_ (i := 28) (v := .slice e.ans.fields.A e.ans.fields.l.length e.ans.fields.cap) rfl)
    have c29 := growc (bE.at_ (i := 29) (v := .slice e.ans.parts.A e.ans.parts.l.length e.ans.parts.cap) rfl)
    have c30 := growc (bE.at_ (i := 30) (v := .int .i64 e.ans.size) rfl)
    go_big_quiet_step (fail)
    clear c27 c28 c29 c30
    go_big_quiet_step (first | (go_at_call 39; exact answC_grow _ _ h.ans hp.ans))
    with_reducible refine wqA (.tmp 112) (.tmp 115) rfl (numT e.tick ++ [32] ++ kindT 8 ++ [32] ++ numT e.node ++ [32] ++ numT e.who ++ [32]) (spT (ansW e.ans.abs)) ?_
    go_frame
    go_big_quiet_step (fail)
    refine wpQuiet_nil ?_
    rintro w' ⟨r, rfl⟩
    have hT := ltext_8 e ek
    have BB := B.trans ((grow_below w2 r).mono B.size)
    rw [hT]
    clear l0 l1 l2 l3 l4 ek
  case' inr.inr.inr.inr.inr.inr.inr.inr.inl =>
    have l0 : (numT e.tick).length ≤ 1000000 := numT_len h.tick
    have l1 := kindT_len 9
    have l2 : (numT e.node).length ≤ 1000000 := numT_len h.node
    have l3 : (numT e.who).length ≤ 1000000 := numT_len h.who
    have l4 : (wordT e.bytes.l).length ≤ 1000000 := wordT_len hp.bytes
    have x0 := growc (bE.at_ (i := 0) (v := .int .i64 9) (by rw [← ek]; rfl))
    refine wp_region_grow (by kernel_rfl) (by kernel_rfl) ?_
    go_big_quiet_step (fail)
    have c1 := growc (bE.at_ (i := 1) (v := .int .i64 e.tick) rfl)
    go_big_quiet_step (fail)
    clear c1
    go_big_quiet_step (first | (go_at_call 33; exact numC_grow h.tick _ _))
    with_reducible refine wqA (.tmp 12) spO rfl (numT e.tick) ([32]) ?_
    go_frame
    go_big_quiet_step (fail)
    go_big_quiet_step (fail)
    have c0 := growc (bE.at_ (i := 0) (v := .int .i64 9) (by rw [← ek]; rfl))
    go_big_quiet_step (fail)
    clear c0
    go_big_quiet_step (fail)
    go_big_quiet_step (fail)
    have cn := growc (bN.at_ (i := 8) (v := .string (bstr (kindT 9))) (by kernel_rfl))
    go_big_quiet_step (fail)
    clear cn
    with_reducible refine wqA (.tmp 13) (.tmp 19) rfl (numT e.tick ++ [32]) (kindT 9) ?_
    go_frame
    go_big_quiet_step (fail)
    refine wpQuiet_nil ?_
    rintro w' ⟨r, rfl⟩
    go_upto_region 6 with (fail)
    with_reducible refine wp_region_lit ?_
    with_reducible refine wpList_quiet (C := fun w' => ∃ r, w' = grow w2 r) ⟨_, rfl⟩ ?_
    go_big_quiet_step (fail)
    with_reducible refine wqA (.tmp 24) spO rfl (numT e.tick ++ [32] ++ kindT 9) ([32]) ?_
    go_frame
    go_big_quiet_step (fail)
    have c2 := growc (bE.at_ (i := 2) (v := .int .i64 e.node) rfl)
    go_big_quiet_step (fail)
    clear c2
    go_big_quiet_step (first | (go_at_call 33; exact numC_grow h.node _ _))
    with_reducible refine wqA (.tmp 25) (.tmp 28) rfl (numT e.tick ++ [32] ++ kindT 9 ++ [32]) (numT e.node) ?_
    go_frame
    go_big_quiet_step (fail)
    refine wpQuiet_nil ?_
    rintro w' ⟨r, rfl⟩
    go_upto_region 8 with (fail)
    with_reducible refine wp_region_lit ?_
    with_reducible refine wpList_quiet (C := fun w' => ∃ r, w' = grow w2 r) ⟨_, rfl⟩ ?_
    go_big_quiet_step (fail)
    with_reducible refine wqA (.tmp 38) spO rfl (numT e.tick ++ [32] ++ kindT 9 ++ [32] ++ numT e.node) ([32]) ?_
    go_frame
    go_big_quiet_step (fail)
    have c3 := growc (bE.at_ (i := 3) (v := .int .i64 e.who) rfl)
    go_big_quiet_step (fail)
    clear c3
    go_big_quiet_step (first | (go_at_call 33; exact numC_grow h.who _ _))
    with_reducible refine wqA (.tmp 39) (.tmp 42) rfl (numT e.tick ++ [32] ++ kindT 9 ++ [32] ++ numT e.node ++ [32]) (numT e.who) ?_
    go_frame
    go_big_quiet_step (fail)
    refine wpQuiet_nil ?_
    rintro w' ⟨r, rfl⟩
    go_upto_region 25 with (fail)
    with_reducible refine wp_region_lit ?_
    with_reducible refine wpList_quiet (C := fun w' => ∃ r, w' = grow w2 r) ⟨_, rfl⟩ ?_
    go_big_quiet_step (fail)
    with_reducible refine wqA (.tmp 120) spO rfl (numT e.tick ++ [32] ++ kindT 9 ++ [32] ++ numT e.node ++ [32] ++ numT e.who) ([32]) ?_
    go_frame
    go_big_quiet_step (fail)
    have c53 := growc (bE.at_ (i := 53) (v := .slice e.bytes.A e.bytes.l.length e.bytes.cap) rfl)
    go_big_quiet_step (fail)
    clear c53
    have cv := cvR w2 h.bytes
    go_big_quiet_step (fail)
    clear cv
    go_big_quiet_step (first | (go_at_call 34; exact wordC_grow hp.bytes _ _))
    with_reducible refine wqA (.tmp 121) (.tmp 125) rfl (numT e.tick ++ [32] ++ kindT 9 ++ [32] ++ numT e.node ++ [32] ++ numT e.who ++ [32]) (wordT e.bytes.l) ?_
    go_frame
    go_big_quiet_step (fail)
    refine wpQuiet_nil ?_
    rintro w' ⟨r, rfl⟩
    have hT := ltext_9 e ek
    have BB := B.trans ((grow_below w2 r).mono B.size)
    rw [hT]
    clear l0 l1 l2 l3 l4 ek
  case' inr.inr.inr.inr.inr.inr.inr.inr.inr.inl =>
    have l0 : (numT e.tick).length ≤ 1000000 := numT_len h.tick
    have l1 := kindT_len 10
    have l2 : (numT e.node).length ≤ 1000000 := numT_len h.node
    have l3 : (numT e.who).length ≤ 1000000 := numT_len h.who
    have l4 : (yesT e.whole).length ≤ 1000000 := yesT_len _
    have x0 := growc (bE.at_ (i := 0) (v := .int .i64 10) (by rw [← ek]; rfl))
    refine wp_region_grow (by kernel_rfl) (by kernel_rfl) ?_
    go_big_quiet_step (fail)
    have c1 := growc (bE.at_ (i := 1) (v := .int .i64 e.tick) rfl)
    go_big_quiet_step (fail)
    clear c1
    go_big_quiet_step (first | (go_at_call 33; exact numC_grow h.tick _ _))
    with_reducible refine wqA (.tmp 12) spO rfl (numT e.tick) ([32]) ?_
    go_frame
    go_big_quiet_step (fail)
    go_big_quiet_step (fail)
    have c0 := growc (bE.at_ (i := 0) (v := .int .i64 10) (by rw [← ek]; rfl))
    go_big_quiet_step (fail)
    clear c0
    go_big_quiet_step (fail)
    go_big_quiet_step (fail)
    have cn := growc (bN.at_ (i := 9) (v := .string (bstr (kindT 10))) (by kernel_rfl))
    go_big_quiet_step (fail)
    clear cn
    with_reducible refine wqA (.tmp 13) (.tmp 19) rfl (numT e.tick ++ [32]) (kindT 10) ?_
    go_frame
    go_big_quiet_step (fail)
    refine wpQuiet_nil ?_
    rintro w' ⟨r, rfl⟩
    go_upto_region 6 with (fail)
    with_reducible refine wp_region_lit ?_
    with_reducible refine wpList_quiet (C := fun w' => ∃ r, w' = grow w2 r) ⟨_, rfl⟩ ?_
    go_big_quiet_step (fail)
    with_reducible refine wqA (.tmp 24) spO rfl (numT e.tick ++ [32] ++ kindT 10) ([32]) ?_
    go_frame
    go_big_quiet_step (fail)
    have c2 := growc (bE.at_ (i := 2) (v := .int .i64 e.node) rfl)
    go_big_quiet_step (fail)
    clear c2
    go_big_quiet_step (first | (go_at_call 33; exact numC_grow h.node _ _))
    with_reducible refine wqA (.tmp 25) (.tmp 28) rfl (numT e.tick ++ [32] ++ kindT 10 ++ [32]) (numT e.node) ?_
    go_frame
    go_big_quiet_step (fail)
    refine wpQuiet_nil ?_
    rintro w' ⟨r, rfl⟩
    go_upto_region 8 with (fail)
    with_reducible refine wp_region_lit ?_
    with_reducible refine wpList_quiet (C := fun w' => ∃ r, w' = grow w2 r) ⟨_, rfl⟩ ?_
    go_big_quiet_step (fail)
    with_reducible refine wqA (.tmp 38) spO rfl (numT e.tick ++ [32] ++ kindT 10 ++ [32] ++ numT e.node) ([32]) ?_
    go_frame
    go_big_quiet_step (fail)
    have c3 := growc (bE.at_ (i := 3) (v := .int .i64 e.who) rfl)
    go_big_quiet_step (fail)
    clear c3
    go_big_quiet_step (first | (go_at_call 33; exact numC_grow h.who _ _))
    with_reducible refine wqA (.tmp 39) (.tmp 42) rfl (numT e.tick ++ [32] ++ kindT 10 ++ [32] ++ numT e.node ++ [32]) (numT e.who) ?_
    go_frame
    go_big_quiet_step (fail)
    refine wpQuiet_nil ?_
    rintro w' ⟨r, rfl⟩
    go_upto_region 28 with (fail)
    with_reducible refine wp_region_lit ?_
    with_reducible refine wpList_quiet (C := fun w' => ∃ r, w' = grow w2 r) ⟨_, rfl⟩ ?_
    go_big_quiet_step (fail)
    with_reducible refine wqA (.tmp 130) spO rfl (numT e.tick ++ [32] ++ kindT 10 ++ [32] ++ numT e.node ++ [32] ++ numT e.who) ([32]) ?_
    go_frame
    go_big_quiet_step (fail)
    have c56 := growc (bE.at_ (i := 56) (v := .bool e.whole) rfl)
    go_big_quiet_step (fail)
    clear c56
    go_big_quiet_step (first | (go_at_call 36; exact yesC_grow e.whole _ _))
    with_reducible refine wqA (.tmp 131) (.tmp 134) rfl (numT e.tick ++ [32] ++ kindT 10 ++ [32] ++ numT e.node ++ [32] ++ numT e.who ++ [32]) (yesT e.whole) ?_
    go_frame
    go_big_quiet_step (fail)
    refine wpQuiet_nil ?_
    rintro w' ⟨r, rfl⟩
    have hT := ltext_10 e ek
    have BB := B.trans ((grow_below w2 r).mono B.size)
    rw [hT]
    clear l0 l1 l2 l3 l4 ek
  case' inr.inr.inr.inr.inr.inr.inr.inr.inr.inr.inl =>
    have l0 : (numT e.tick).length ≤ 1000000 := numT_len h.tick
    have l1 := kindT_len 11
    have l2 : (numT e.node).length ≤ 1000000 := numT_len h.node
    have l3 : (numT e.who).length ≤ 1000000 := numT_len h.who
    have l4 : Sml (spT (fetW e.fet)) := sml_lw (fet_lw hp.fet) (by decide)
    unfold Sml at l4
    have x0 := growc (bE.at_ (i := 0) (v := .int .i64 11) (by rw [← ek]; rfl))
    refine wp_region_grow (by kernel_rfl) (by kernel_rfl) ?_
    go_big_quiet_step (fail)
    have c1 := growc (bE.at_ (i := 1) (v := .int .i64 e.tick) rfl)
    go_big_quiet_step (fail)
    clear c1
    go_big_quiet_step (first | (go_at_call 33; exact numC_grow h.tick _ _))
    with_reducible refine wqA (.tmp 12) spO rfl (numT e.tick) ([32]) ?_
    go_frame
    go_big_quiet_step (fail)
    go_big_quiet_step (fail)
    have c0 := growc (bE.at_ (i := 0) (v := .int .i64 11) (by rw [← ek]; rfl))
    go_big_quiet_step (fail)
    clear c0
    go_big_quiet_step (fail)
    go_big_quiet_step (fail)
    have cn := growc (bN.at_ (i := 10) (v := .string (bstr (kindT 11))) (by kernel_rfl))
    go_big_quiet_step (fail)
    clear cn
    with_reducible refine wqA (.tmp 13) (.tmp 19) rfl (numT e.tick ++ [32]) (kindT 11) ?_
    go_frame
    go_big_quiet_step (fail)
    refine wpQuiet_nil ?_
    rintro w' ⟨r, rfl⟩
    go_upto_region 6 with (fail)
    with_reducible refine wp_region_lit ?_
    with_reducible refine wpList_quiet (C := fun w' => ∃ r, w' = grow w2 r) ⟨_, rfl⟩ ?_
    go_big_quiet_step (fail)
    with_reducible refine wqA (.tmp 24) spO rfl (numT e.tick ++ [32] ++ kindT 11) ([32]) ?_
    go_frame
    go_big_quiet_step (fail)
    have c2 := growc (bE.at_ (i := 2) (v := .int .i64 e.node) rfl)
    go_big_quiet_step (fail)
    clear c2
    go_big_quiet_step (first | (go_at_call 33; exact numC_grow h.node _ _))
    with_reducible refine wqA (.tmp 25) (.tmp 28) rfl (numT e.tick ++ [32] ++ kindT 11 ++ [32]) (numT e.node) ?_
    go_frame
    go_big_quiet_step (fail)
    refine wpQuiet_nil ?_
    rintro w' ⟨r, rfl⟩
    go_upto_region 8 with (fail)
    with_reducible refine wp_region_lit ?_
    with_reducible refine wpList_quiet (C := fun w' => ∃ r, w' = grow w2 r) ⟨_, rfl⟩ ?_
    go_big_quiet_step (fail)
    with_reducible refine wqA (.tmp 38) spO rfl (numT e.tick ++ [32] ++ kindT 11 ++ [32] ++ numT e.node) ([32]) ?_
    go_frame
    go_big_quiet_step (fail)
    have c3 := growc (bE.at_ (i := 3) (v := .int .i64 e.who) rfl)
    go_big_quiet_step (fail)
    clear c3
    go_big_quiet_step (first | (go_at_call 33; exact numC_grow h.who _ _))
    with_reducible refine wqA (.tmp 39) (.tmp 42) rfl (numT e.tick ++ [32] ++ kindT 11 ++ [32] ++ numT e.node ++ [32]) (numT e.who) ?_
    go_frame
    go_big_quiet_step (fail)
    refine wpQuiet_nil ?_
    rintro w' ⟨r, rfl⟩
    go_upto_region 30 with (fail)
    with_reducible refine wp_region_lit ?_
    with_reducible refine wpList_quiet (C := fun w' => ∃ r, w' = grow w2 r) ⟨_, rfl⟩ ?_
    go_big_quiet_step (fail)
    with_reducible refine wqA (.tmp 138) spO rfl (numT e.tick ++ [32] ++ kindT 11 ++ [32] ++ numT e.node ++ [32] ++ numT e.who) ([32]) ?_
    go_frame
    go_big_quiet_step (fail)
    have c31 := growc (bE.at_ (i := 31) (v := .string (bstr e.fet.object)) rfl)
    have c32 := growc (bE.at_ (i := 32) (v := .int .i64 e.fet.span.frm) rfl)
    have c33 := growc (bE.at_ (i := 33) (v := .int .i64 e.fet.span.to) rfl)
    have c34 := growc (bE.at_ (i := 34) (v := .string (bstr e.fet.mtch.text)) rfl)
    have c35 := growc (bE.at_ (i := 35) (v := .bool e.fet.mtch.weak) rfl)
    have c36 := growc (bE.at_ (i := 36) (v := .string (bstr e.fet.non.text)) rfl)
    have c37 := growc (bE.at_ (i := 37) (v := .bool e.fet.non.weak) rfl)
    go_big_quiet_step (fail)
    clear c31 c32 c33 c34 c35 c36 c37
    go_big_quiet_step (first | (go_at_call 40; exact fetC_grow hp.fet _ _))
    with_reducible refine wqA (.tmp 139) (.tmp 142) rfl (numT e.tick ++ [32] ++ kindT 11 ++ [32] ++ numT e.node ++ [32] ++ numT e.who ++ [32]) (spT (fetW e.fet)) ?_
    go_frame
    go_big_quiet_step (fail)
    refine wpQuiet_nil ?_
    rintro w' ⟨r, rfl⟩
    have hT := ltext_11 e ek
    have BB := B.trans ((grow_below w2 r).mono B.size)
    rw [hT]
    clear l0 l1 l2 l3 l4 ek
  case' inr.inr.inr.inr.inr.inr.inr.inr.inr.inr.inr.inl =>
    have l0 : (numT e.tick).length ≤ 1000000 := numT_len h.tick
    have l1 := kindT_len 12
    have l2 : (numT e.node).length ≤ 1000000 := numT_len h.node
    have l3 : (numT e.who).length ≤ 1000000 := numT_len h.who
    have l4 : Sml (spT (repW e.rep.abs)) := sml_lw (rep_lw hp.rep) (by decide)
    unfold Sml at l4
    have x0 := growc (bE.at_ (i := 0) (v := .int .i64 12) (by rw [← ek]; rfl))
    refine wp_region_grow (by kernel_rfl) (by kernel_rfl) ?_
    go_big_quiet_step (fail)
    have c1 := growc (bE.at_ (i := 1) (v := .int .i64 e.tick) rfl)
    go_big_quiet_step (fail)
    clear c1
    go_big_quiet_step (first | (go_at_call 33; exact numC_grow h.tick _ _))
    with_reducible refine wqA (.tmp 12) spO rfl (numT e.tick) ([32]) ?_
    go_frame
    go_big_quiet_step (fail)
    go_big_quiet_step (fail)
    have c0 := growc (bE.at_ (i := 0) (v := .int .i64 12) (by rw [← ek]; rfl))
    go_big_quiet_step (fail)
    clear c0
    go_big_quiet_step (fail)
    go_big_quiet_step (fail)
    have cn := growc (bN.at_ (i := 11) (v := .string (bstr (kindT 12))) (by kernel_rfl))
    go_big_quiet_step (fail)
    clear cn
    with_reducible refine wqA (.tmp 13) (.tmp 19) rfl (numT e.tick ++ [32]) (kindT 12) ?_
    go_frame
    go_big_quiet_step (fail)
    refine wpQuiet_nil ?_
    rintro w' ⟨r, rfl⟩
    go_upto_region 6 with (fail)
    with_reducible refine wp_region_lit ?_
    with_reducible refine wpList_quiet (C := fun w' => ∃ r, w' = grow w2 r) ⟨_, rfl⟩ ?_
    go_big_quiet_step (fail)
    with_reducible refine wqA (.tmp 24) spO rfl (numT e.tick ++ [32] ++ kindT 12) ([32]) ?_
    go_frame
    go_big_quiet_step (fail)
    have c2 := growc (bE.at_ (i := 2) (v := .int .i64 e.node) rfl)
    go_big_quiet_step (fail)
    clear c2
    go_big_quiet_step (first | (go_at_call 33; exact numC_grow h.node _ _))
    with_reducible refine wqA (.tmp 25) (.tmp 28) rfl (numT e.tick ++ [32] ++ kindT 12 ++ [32]) (numT e.node) ?_
    go_frame
    go_big_quiet_step (fail)
    refine wpQuiet_nil ?_
    rintro w' ⟨r, rfl⟩
    go_upto_region 8 with (fail)
    with_reducible refine wp_region_lit ?_
    with_reducible refine wpList_quiet (C := fun w' => ∃ r, w' = grow w2 r) ⟨_, rfl⟩ ?_
    go_big_quiet_step (fail)
    with_reducible refine wqA (.tmp 38) spO rfl (numT e.tick ++ [32] ++ kindT 12 ++ [32] ++ numT e.node) ([32]) ?_
    go_frame
    go_big_quiet_step (fail)
    have c3 := growc (bE.at_ (i := 3) (v := .int .i64 e.who) rfl)
    go_big_quiet_step (fail)
    clear c3
    go_big_quiet_step (first | (go_at_call 33; exact numC_grow h.who _ _))
    with_reducible refine wqA (.tmp 39) (.tmp 42) rfl (numT e.tick ++ [32] ++ kindT 12 ++ [32] ++ numT e.node ++ [32]) (numT e.who) ?_
    go_frame
    go_big_quiet_step (fail)
    refine wpQuiet_nil ?_
    rintro w' ⟨r, rfl⟩
    go_upto_region 32 with (fail)
    with_reducible refine wp_region_lit ?_
    with_reducible refine wpList_quiet (C := fun w' => ∃ r, w' = grow w2 r) ⟨_, rfl⟩ ?_
    go_big_quiet_step (fail)
    with_reducible refine wqA (.tmp 146) spO rfl (numT e.tick ++ [32] ++ kindT 12 ++ [32] ++ numT e.node ++ [32] ++ numT e.who) ([32]) ?_
    go_frame
    go_big_quiet_step (fail)
    have c38 := growc (bE.at_ (i := 38) (v := .int .i64 e.rep.status) rfl)
    have c39 := growc (bE.at_ (i := 39) (v := .string (bstr e.rep.met.tag.text)) rfl)
    have c40 := growc (bE.at_ (i := 40) (v := .bool e.rep.met.tag.weak) rfl)
    have c41 := growc (bE.at_ (i := 41) (v := .int .i64 e.rep.met.modi) rfl)
    have c42 := growc (bE.at_ (i := 42) (v := .int .i64 e.rep.met.len) rfl)
    have c43 := growc (bE.at_ (i := 43) (v := .int .i64 e.rep.met.have_) rfl)
    have c44 := growc (bE.at_ (i := 44) (v := .int .i64 e.rep.met.fresh) rfl)
    have c45 := growc (bE.at_ (i := 45) (v := .int .i64 e.rep.met.while_) rfl)
    have c46 := growc (bE.at_ (i := 46) (v := .int .i64 e.rep.met.error) rfl)
    have c47 := growc (bE.at_ (i := 47) (v := .slice e.rep.met.keys.A e.rep.met.keys.l.length e.rep.met.keys.cap) rfl)
    have c48 := growc (bE.at_ (i := 48) (v := .string (bstr e.rep.met.tenant)) rfl)
    have c49 := growc (bE.at_ (i := 49) (v := .bool e.rep.met.keep) rfl)
    have c50 := growc (bE.at_ (i := 50) (v := .int .i64 e.rep.span.frm) rfl)
    have c51 := growc (bE.at_ (i := 51) (v := .int .i64 e.rep.span.to) rfl)
    have c52 := growc (bE.at_ (i := 52) (v := .int .i64 e.rep.age) rfl)
    go_big_quiet_step (fail)
    clear c38 c39 c40 c41 c42 c43 c44 c45 c46 c47 c48 c49 c50 c51 c52
    go_big_quiet_step (first | (go_at_call 41; exact replyC_grow _ _ h.rep hp.rep))
    with_reducible refine wqA (.tmp 147) (.tmp 150) rfl (numT e.tick ++ [32] ++ kindT 12 ++ [32] ++ numT e.node ++ [32] ++ numT e.who ++ [32]) (spT (repW e.rep.abs)) ?_
    go_frame
    go_big_quiet_step (fail)
    refine wpQuiet_nil ?_
    rintro w' ⟨r, rfl⟩
    have hT := ltext_12 e ek
    have BB := B.trans ((grow_below w2 r).mono B.size)
    rw [hT]
    clear l0 l1 l2 l3 l4 ek
  case' inr.inr.inr.inr.inr.inr.inr.inr.inr.inr.inr.inr.inl =>
    have l0 : (numT e.tick).length ≤ 1000000 := numT_len h.tick
    have l1 := kindT_len 13
    have l2 : (numT e.node).length ≤ 1000000 := numT_len h.node
    have l3 : (numT e.who).length ≤ 1000000 := numT_len h.who
    have l4 : (wordT e.bytes.l).length ≤ 1000000 := wordT_len hp.bytes
    have x0 := growc (bE.at_ (i := 0) (v := .int .i64 13) (by rw [← ek]; rfl))
    refine wp_region_grow (by kernel_rfl) (by kernel_rfl) ?_
    go_big_quiet_step (fail)
    have c1 := growc (bE.at_ (i := 1) (v := .int .i64 e.tick) rfl)
    go_big_quiet_step (fail)
    clear c1
    go_big_quiet_step (first | (go_at_call 33; exact numC_grow h.tick _ _))
    with_reducible refine wqA (.tmp 12) spO rfl (numT e.tick) ([32]) ?_
    go_frame
    go_big_quiet_step (fail)
    go_big_quiet_step (fail)
    have c0 := growc (bE.at_ (i := 0) (v := .int .i64 13) (by rw [← ek]; rfl))
    go_big_quiet_step (fail)
    clear c0
    go_big_quiet_step (fail)
    go_big_quiet_step (fail)
    have cn := growc (bN.at_ (i := 12) (v := .string (bstr (kindT 13))) (by kernel_rfl))
    go_big_quiet_step (fail)
    clear cn
    with_reducible refine wqA (.tmp 13) (.tmp 19) rfl (numT e.tick ++ [32]) (kindT 13) ?_
    go_frame
    go_big_quiet_step (fail)
    refine wpQuiet_nil ?_
    rintro w' ⟨r, rfl⟩
    go_upto_region 6 with (fail)
    with_reducible refine wp_region_lit ?_
    with_reducible refine wpList_quiet (C := fun w' => ∃ r, w' = grow w2 r) ⟨_, rfl⟩ ?_
    go_big_quiet_step (fail)
    with_reducible refine wqA (.tmp 24) spO rfl (numT e.tick ++ [32] ++ kindT 13) ([32]) ?_
    go_frame
    go_big_quiet_step (fail)
    have c2 := growc (bE.at_ (i := 2) (v := .int .i64 e.node) rfl)
    go_big_quiet_step (fail)
    clear c2
    go_big_quiet_step (first | (go_at_call 33; exact numC_grow h.node _ _))
    with_reducible refine wqA (.tmp 25) (.tmp 28) rfl (numT e.tick ++ [32] ++ kindT 13 ++ [32]) (numT e.node) ?_
    go_frame
    go_big_quiet_step (fail)
    refine wpQuiet_nil ?_
    rintro w' ⟨r, rfl⟩
    go_upto_region 8 with (fail)
    with_reducible refine wp_region_lit ?_
    with_reducible refine wpList_quiet (C := fun w' => ∃ r, w' = grow w2 r) ⟨_, rfl⟩ ?_
    go_big_quiet_step (fail)
    with_reducible refine wqA (.tmp 38) spO rfl (numT e.tick ++ [32] ++ kindT 13 ++ [32] ++ numT e.node) ([32]) ?_
    go_frame
    go_big_quiet_step (fail)
    have c3 := growc (bE.at_ (i := 3) (v := .int .i64 e.who) rfl)
    go_big_quiet_step (fail)
    clear c3
    go_big_quiet_step (first | (go_at_call 33; exact numC_grow h.who _ _))
    with_reducible refine wqA (.tmp 39) (.tmp 42) rfl (numT e.tick ++ [32] ++ kindT 13 ++ [32] ++ numT e.node ++ [32]) (numT e.who) ?_
    go_frame
    go_big_quiet_step (fail)
    refine wpQuiet_nil ?_
    rintro w' ⟨r, rfl⟩
    go_upto_region 25 with (fail)
    with_reducible refine wp_region_lit ?_
    with_reducible refine wpList_quiet (C := fun w' => ∃ r, w' = grow w2 r) ⟨_, rfl⟩ ?_
    go_big_quiet_step (fail)
    with_reducible refine wqA (.tmp 120) spO rfl (numT e.tick ++ [32] ++ kindT 13 ++ [32] ++ numT e.node ++ [32] ++ numT e.who) ([32]) ?_
    go_frame
    go_big_quiet_step (fail)
    have c53 := growc (bE.at_ (i := 53) (v := .slice e.bytes.A e.bytes.l.length e.bytes.cap) rfl)
    go_big_quiet_step (fail)
    clear c53
    have cv := cvR w2 h.bytes
    go_big_quiet_step (fail)
    clear cv
    go_big_quiet_step (first | (go_at_call 34; exact wordC_grow hp.bytes _ _))
    with_reducible refine wqA (.tmp 121) (.tmp 125) rfl (numT e.tick ++ [32] ++ kindT 13 ++ [32] ++ numT e.node ++ [32] ++ numT e.who ++ [32]) (wordT e.bytes.l) ?_
    go_frame
    go_big_quiet_step (fail)
    refine wpQuiet_nil ?_
    rintro w' ⟨r, rfl⟩
    have hT := ltext_13 e ek
    have BB := B.trans ((grow_below w2 r).mono B.size)
    rw [hT]
    clear l0 l1 l2 l3 l4 ek
  case' inr.inr.inr.inr.inr.inr.inr.inr.inr.inr.inr.inr.inr.inl =>
    have l0 : (numT e.tick).length ≤ 1000000 := numT_len h.tick
    have l1 := kindT_len 14
    have l2 : (numT e.node).length ≤ 1000000 := numT_len h.node
    have l3 : (numT e.who).length ≤ 1000000 := numT_len h.who
    have l4 : (yesT e.whole).length ≤ 1000000 := yesT_len _
    have x0 := growc (bE.at_ (i := 0) (v := .int .i64 14) (by rw [← ek]; rfl))
    refine wp_region_grow (by kernel_rfl) (by kernel_rfl) ?_
    go_big_quiet_step (fail)
    have c1 := growc (bE.at_ (i := 1) (v := .int .i64 e.tick) rfl)
    go_big_quiet_step (fail)
    clear c1
    go_big_quiet_step (first | (go_at_call 33; exact numC_grow h.tick _ _))
    with_reducible refine wqA (.tmp 12) spO rfl (numT e.tick) ([32]) ?_
    go_frame
    go_big_quiet_step (fail)
    go_big_quiet_step (fail)
    have c0 := growc (bE.at_ (i := 0) (v := .int .i64 14) (by rw [← ek]; rfl))
    go_big_quiet_step (fail)
    clear c0
    go_big_quiet_step (fail)
    go_big_quiet_step (fail)
    have cn := growc (bN.at_ (i := 13) (v := .string (bstr (kindT 14))) (by kernel_rfl))
    go_big_quiet_step (fail)
    clear cn
    with_reducible refine wqA (.tmp 13) (.tmp 19) rfl (numT e.tick ++ [32]) (kindT 14) ?_
    go_frame
    go_big_quiet_step (fail)
    refine wpQuiet_nil ?_
    rintro w' ⟨r, rfl⟩
    go_upto_region 6 with (fail)
    with_reducible refine wp_region_lit ?_
    with_reducible refine wpList_quiet (C := fun w' => ∃ r, w' = grow w2 r) ⟨_, rfl⟩ ?_
    go_big_quiet_step (fail)
    with_reducible refine wqA (.tmp 24) spO rfl (numT e.tick ++ [32] ++ kindT 14) ([32]) ?_
    go_frame
    go_big_quiet_step (fail)
    have c2 := growc (bE.at_ (i := 2) (v := .int .i64 e.node) rfl)
    go_big_quiet_step (fail)
    clear c2
    go_big_quiet_step (first | (go_at_call 33; exact numC_grow h.node _ _))
    with_reducible refine wqA (.tmp 25) (.tmp 28) rfl (numT e.tick ++ [32] ++ kindT 14 ++ [32]) (numT e.node) ?_
    go_frame
    go_big_quiet_step (fail)
    refine wpQuiet_nil ?_
    rintro w' ⟨r, rfl⟩
    go_upto_region 8 with (fail)
    with_reducible refine wp_region_lit ?_
    with_reducible refine wpList_quiet (C := fun w' => ∃ r, w' = grow w2 r) ⟨_, rfl⟩ ?_
    go_big_quiet_step (fail)
    with_reducible refine wqA (.tmp 38) spO rfl (numT e.tick ++ [32] ++ kindT 14 ++ [32] ++ numT e.node) ([32]) ?_
    go_frame
    go_big_quiet_step (fail)
    have c3 := growc (bE.at_ (i := 3) (v := .int .i64 e.who) rfl)
    go_big_quiet_step (fail)
    clear c3
    go_big_quiet_step (first | (go_at_call 33; exact numC_grow h.who _ _))
    with_reducible refine wqA (.tmp 39) (.tmp 42) rfl (numT e.tick ++ [32] ++ kindT 14 ++ [32] ++ numT e.node ++ [32]) (numT e.who) ?_
    go_frame
    go_big_quiet_step (fail)
    refine wpQuiet_nil ?_
    rintro w' ⟨r, rfl⟩
    go_upto_region 28 with (fail)
    with_reducible refine wp_region_lit ?_
    with_reducible refine wpList_quiet (C := fun w' => ∃ r, w' = grow w2 r) ⟨_, rfl⟩ ?_
    go_big_quiet_step (fail)
    with_reducible refine wqA (.tmp 130) spO rfl (numT e.tick ++ [32] ++ kindT 14 ++ [32] ++ numT e.node ++ [32] ++ numT e.who) ([32]) ?_
    go_frame
    go_big_quiet_step (fail)
    have c56 := growc (bE.at_ (i := 56) (v := .bool e.whole) rfl)
    go_big_quiet_step (fail)
    clear c56
    go_big_quiet_step (first | (go_at_call 36; exact yesC_grow e.whole _ _))
    with_reducible refine wqA (.tmp 131) (.tmp 134) rfl (numT e.tick ++ [32] ++ kindT 14 ++ [32] ++ numT e.node ++ [32] ++ numT e.who ++ [32]) (yesT e.whole) ?_
    go_frame
    go_big_quiet_step (fail)
    refine wpQuiet_nil ?_
    rintro w' ⟨r, rfl⟩
    have hT := ltext_14 e ek
    have BB := B.trans ((grow_below w2 r).mono B.size)
    rw [hT]
    clear l0 l1 l2 l3 l4 ek
  case' inr.inr.inr.inr.inr.inr.inr.inr.inr.inr.inr.inr.inr.inr.inl =>
    have l0 : (numT e.tick).length ≤ 1000000 := numT_len h.tick
    have l1 := kindT_len 15
    have l2 : (numT e.node).length ≤ 1000000 := numT_len h.node
    have l3 : (numT e.who).length ≤ 1000000 := numT_len h.who
    have x0 := growc (bE.at_ (i := 0) (v := .int .i64 15) (by rw [← ek]; rfl))
    refine wp_region_grow (by kernel_rfl) (by kernel_rfl) ?_
    go_big_quiet_step (fail)
    have c1 := growc (bE.at_ (i := 1) (v := .int .i64 e.tick) rfl)
    go_big_quiet_step (fail)
    clear c1
    go_big_quiet_step (first | (go_at_call 33; exact numC_grow h.tick _ _))
    with_reducible refine wqA (.tmp 12) spO rfl (numT e.tick) ([32]) ?_
    go_frame
    go_big_quiet_step (fail)
    go_big_quiet_step (fail)
    have c0 := growc (bE.at_ (i := 0) (v := .int .i64 15) (by rw [← ek]; rfl))
    go_big_quiet_step (fail)
    clear c0
    go_big_quiet_step (fail)
    go_big_quiet_step (fail)
    have cn := growc (bN.at_ (i := 14) (v := .string (bstr (kindT 15))) (by kernel_rfl))
    go_big_quiet_step (fail)
    clear cn
    with_reducible refine wqA (.tmp 13) (.tmp 19) rfl (numT e.tick ++ [32]) (kindT 15) ?_
    go_frame
    go_big_quiet_step (fail)
    refine wpQuiet_nil ?_
    rintro w' ⟨r, rfl⟩
    go_upto_region 6 with (fail)
    with_reducible refine wp_region_lit ?_
    with_reducible refine wpList_quiet (C := fun w' => ∃ r, w' = grow w2 r) ⟨_, rfl⟩ ?_
    go_big_quiet_step (fail)
    with_reducible refine wqA (.tmp 24) spO rfl (numT e.tick ++ [32] ++ kindT 15) ([32]) ?_
    go_frame
    go_big_quiet_step (fail)
    have c2 := growc (bE.at_ (i := 2) (v := .int .i64 e.node) rfl)
    go_big_quiet_step (fail)
    clear c2
    go_big_quiet_step (first | (go_at_call 33; exact numC_grow h.node _ _))
    with_reducible refine wqA (.tmp 25) (.tmp 28) rfl (numT e.tick ++ [32] ++ kindT 15 ++ [32]) (numT e.node) ?_
    go_frame
    go_big_quiet_step (fail)
    refine wpQuiet_nil ?_
    rintro w' ⟨r, rfl⟩
    go_upto_region 8 with (fail)
    with_reducible refine wp_region_lit ?_
    with_reducible refine wpList_quiet (C := fun w' => ∃ r, w' = grow w2 r) ⟨_, rfl⟩ ?_
    go_big_quiet_step (fail)
    with_reducible refine wqA (.tmp 38) spO rfl (numT e.tick ++ [32] ++ kindT 15 ++ [32] ++ numT e.node) ([32]) ?_
    go_frame
    go_big_quiet_step (fail)
    have c3 := growc (bE.at_ (i := 3) (v := .int .i64 e.who) rfl)
    go_big_quiet_step (fail)
    clear c3
    go_big_quiet_step (first | (go_at_call 33; exact numC_grow h.who _ _))
    with_reducible refine wqA (.tmp 39) (.tmp 42) rfl (numT e.tick ++ [32] ++ kindT 15 ++ [32] ++ numT e.node ++ [32]) (numT e.who) ?_
    go_frame
    go_big_quiet_step (fail)
    refine wpQuiet_nil ?_
    rintro w' ⟨r, rfl⟩
    have hT := ltext_15 e ek
    have BB := B.trans ((grow_below w2 r).mono B.size)
    rw [hT]
    clear l0 l1 l2 l3 ek
  case' inr.inr.inr.inr.inr.inr.inr.inr.inr.inr.inr.inr.inr.inr.inr =>
    have l0 : (numT e.tick).length ≤ 1000000 := numT_len h.tick
    have l1 := kindT_len 16
    have l2 : (numT e.node).length ≤ 1000000 := numT_len h.node
    have x0 := growc (bE.at_ (i := 0) (v := .int .i64 16) (by rw [← ek]; rfl))
    refine wp_region_grow (by kernel_rfl) (by kernel_rfl) ?_
    go_big_quiet_step (fail)
    have c1 := growc (bE.at_ (i := 1) (v := .int .i64 e.tick) rfl)
    go_big_quiet_step (fail)
    clear c1
    go_big_quiet_step (first | (go_at_call 33; exact numC_grow h.tick _ _))
    with_reducible refine wqA (.tmp 12) spO rfl (numT e.tick) ([32]) ?_
    go_frame
    go_big_quiet_step (fail)
    go_big_quiet_step (fail)
    have c0 := growc (bE.at_ (i := 0) (v := .int .i64 16) (by rw [← ek]; rfl))
    go_big_quiet_step (fail)
    clear c0
    go_big_quiet_step (fail)
    go_big_quiet_step (fail)
    have cn := growc (bN.at_ (i := 15) (v := .string (bstr (kindT 16))) (by kernel_rfl))
    go_big_quiet_step (fail)
    clear cn
    with_reducible refine wqA (.tmp 13) (.tmp 19) rfl (numT e.tick ++ [32]) (kindT 16) ?_
    go_frame
    go_big_quiet_step (fail)
    refine wpQuiet_nil ?_
    rintro w' ⟨r, rfl⟩
    go_upto_region 6 with (fail)
    with_reducible refine wp_region_lit ?_
    with_reducible refine wpList_quiet (C := fun w' => ∃ r, w' = grow w2 r) ⟨_, rfl⟩ ?_
    go_big_quiet_step (fail)
    with_reducible refine wqA (.tmp 24) spO rfl (numT e.tick ++ [32] ++ kindT 16) ([32]) ?_
    go_frame
    go_big_quiet_step (fail)
    have c2 := growc (bE.at_ (i := 2) (v := .int .i64 e.node) rfl)
    go_big_quiet_step (fail)
    clear c2
    go_big_quiet_step (first | (go_at_call 33; exact numC_grow h.node _ _))
    with_reducible refine wqA (.tmp 25) (.tmp 28) rfl (numT e.tick ++ [32] ++ kindT 16 ++ [32]) (numT e.node) ?_
    go_frame
    go_big_quiet_step (fail)
    refine wpQuiet_nil ?_
    rintro w' ⟨r, rfl⟩
    have hT := ltext_16 e ek
    have BB := B.trans ((grow_below w2 r).mono B.size)
    rw [hT]
    clear l0 l1 l2 ek
  all_goals
    (go_upto_region 33 with (fail)
     clear x0 hT
     have hl : (bstr (lineT e.abs)).size = (lineT e.abs).length := bstr_size _
     by_cases hm : 65536 < (lineT e.abs).length
     · have d0 : decide ((65536 : Int) < ((lineT e.abs).length : Int)) = true := decide_eq_true (by omega)
       go_wp2
       go_ret2
       refine ⟨?_, BB⟩
       show _ = _
       unfold textT textE
       rw [hb, if_pos hm, if_pos hm]
       rfl
     · have d0 : decide ((65536 : Int) < ((lineT e.abs).length : Int)) = false := decide_eq_false (by omega)
       go_wp2
       go_ret2
       refine ⟨?_, BB⟩
       show _ = _
       unfold textT textE
       rw [hb, if_neg hm, if_neg hm]
       rfl)
theorem dtext_calls (e : EvtR) (w : World) (h0 : EvtOK w e) (hp : ShortE e.abs) :
    Calls Tryz.prog 14 #[.agg e.cells.toArray] w fun r w' => RetTx r e.abs ∧ Below w.heap.size w w' := by
  cases hb : rightB e.abs with
  | false => exact dtext_no e w h0 hp hb
  | true =>
    have hk := ((rightB_iff _).1 hb).1.1
    have K16 : e.kind = 1 ∨ e.kind = 2 ∨ e.kind = 3 ∨ e.kind = 4 ∨ e.kind = 5 ∨ e.kind = 6 ∨ e.kind = 7 ∨ e.kind = 8 ∨ e.kind = 9 ∨ e.kind = 10 ∨ e.kind = 11 ∨ e.kind = 12 ∨ e.kind = 13 ∨ e.kind = 14 ∨ e.kind = 15 ∨ e.kind = 16 := by
      have : 1 ≤ e.kind ∧ e.kind ≤ 16 := hk
      omega
    exact dtext_yes e w h0 hp K16 hb
end Go.Proofs.YtiokbebodblhaaaGreatDoor
