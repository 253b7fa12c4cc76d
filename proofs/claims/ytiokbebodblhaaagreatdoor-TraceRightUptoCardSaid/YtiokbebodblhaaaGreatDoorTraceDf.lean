/-
  Walks of the document: are two events alike; does one fit. Printed by docfit.py.
-/
import Derived.Test.YtiokbebodblhaaaGreatDoorTraceDo
namespace Go.Proofs.YtiokbebodblhaaaGreatDoor
open Go.RowKit TraceP

theorem all_eq (a b : Evt) : ((bstr (spT (allW a))).toList == (bstr (spT (allW b))).toList) = sm a b := by
  rw [bstr_list, bstr_list]
  cases hq : sm a b with
  | true => rw [(sm_iff _ _).1 hq]; exact beq_iff_eq.2 rfl
  | false =>
    cases hc : spT (allW a) == spT (allW b) with
    | false => rfl
    | true =>
      rw [sm_true ((all_inj a b).1 (beq_iff_eq.1 hc))] at hq
      cases hq
theorem allC_grow (w1 r0 : World) {e : EvtR} (h : EvtOK w1 e) (hp : ShortE e.abs) : Calls Tryz.prog 48 #[.agg e.cells.toArray] (grow w1 r0) fun x w' => x = .returned (.string (bstr (spT (allW e.abs)))) ∧ ∃ r', w' = grow w1 r' :=
  calls_grow (all_calls e (grow w1 r0) (h.below (grow_below w1 r0)) hp)
theorem load_evt {w1 : World} {b : Nat} {e : EvtR} (bE : Blk w1 b 45 e.cells.toArray) : Hid (∀ r, (Instr.loadAt 45 (.pointer (some ⟨b, 0, none⟩))).run Tryz.prog (grow w1 r) = .ok (.agg e.cells.toArray) (grow w1 r)) := Lib.hid fun r =>
  run_loadAt_mid (grow w1 r) b 0 45 e.cells _ (fun j v hv => by rw [Nat.zero_add, (bE.below (grow_below w1 r) bE.lt).cell]; simpa using hv) Tryz.underlying45 (by kernel_rfl) (by kernel_rfl)
set_option maxRecDepth 100000 in
set_option maxHeartbeats 1600000 in
theorem dalike_calls (w : World) (a b : EvtR) (ha : EvtOK w a) (hb : EvtOK w b) (pa : ShortE a.abs) (pb : ShortE b.abs) :
    Calls Tryz.prog 17 #[.agg a.cells.toArray, .agg b.cells.toArray] w fun r w' => r = .returned (.bool (sm a.abs b.abs)) ∧ Below w.heap.size w w' := by
  have bA := (Blk.new w 45 a.cells.toArray).alloc (.cells b.cells.toArray 45)
  have bB := Blk.new (w.alloc (.cells a.cells.toArray 45)) 45 b.cells.toArray
  rw [show (w.alloc (.cells a.cells.toArray 45)).heap.size = w.heap.size + 1 by simp] at bB
  have B := (below_new w (.cells a.cells.toArray 45)).trans ((below_new (w.alloc (.cells a.cells.toArray 45)) (.cells b.cells.toArray 45)).mono (by simp))
  have he := all_eq a.abs b.abs
  go_enter Tryz.func17, Tryz.ntmps17
  go_upto_region 1 with (fail)
  generalize (w.alloc (.cells a.cells.toArray 45)).alloc (.cells b.cells.toArray 45) = w1 at *
  have ha1 := ha.below B
  have hb1 := hb.below B
  have hla := load_evt bA
  have hlb := load_evt bB
  refine wp_region_grow (by kernel_rfl) (by kernel_rfl) ?_
  with_reducible refine wpQuiet_load (by kernel_rfl) 45 (.tmp 2) rfl (.pointer (some ⟨w.heap.size, 0, none⟩)) (by kernel_rfl) (.agg a.cells.toArray) (by rintro w' ⟨r, rfl⟩; exact hla.out r) ?_
  go_frame
  go_big_quiet_step (first | (go_at_call 48; exact allC_grow _ _ ha1 pa))
  with_reducible refine wpQuiet_load (by kernel_rfl) 45 (.tmp 3) rfl (.pointer (some ⟨w.heap.size + 1, 0, none⟩)) (by kernel_rfl) (.agg b.cells.toArray) (by rintro w' ⟨r, rfl⟩; exact hlb.out r) ?_
  go_frame
  go_big_quiet_step (first | (go_at_call 48; exact allC_grow _ _ hb1 pb))
  repeat (go_big_quiet_step (fail))
  refine wpQuiet_nil ?_
  rintro w' ⟨r, rfl⟩
  have BB := B.trans ((grow_below w1 r).mono B.size)
  clear hla hlb
  go_wp2
  go_ret
  exact ⟨rfl, BB⟩
theorem dalikeC_grow (w1 r0 : World) {a b : EvtR} (ha : EvtOK w1 a) (hb : EvtOK w1 b) (pa : ShortE a.abs) (pb : ShortE b.abs) : Calls Tryz.prog 17 #[.agg a.cells.toArray, .agg b.cells.toArray] (grow w1 r0) fun x w' => x = .returned (.bool (sm a.abs b.abs)) ∧ ∃ r', w' = grow w1 r' :=
  calls_grow (dalike_calls (grow w1 r0) a b (ha.below (grow_below w1 r0)) (hb.below (grow_below w1 r0)) pa pb)
theorem donlyC_grow (w1 r0 : World) (e : EvtR) (hk : 1 ≤ e.kind ∧ e.kind ≤ 16) : Calls Tryz.prog 74 #[.agg e.cells.toArray] (grow w1 r0) fun x w' => x = .returned (.agg (onlyR e).cells.toArray) ∧ ∃ r', w' = grow w1 r' :=
  calls_grow (donly_calls (grow w1 r0) e hk)
theorem ShortE.only {e : Evt} (h : ShortE e) : ShortE (onlyE e) := by
  have z := zEvt_p (k := 0) (t := 0) (n := 0) (w := 0) ⟨by decide, by decide⟩ i64_zero i64_zero i64_zero
  refine ⟨?_, ?_, ?_, ?_, ?_, ?_, ?_, ?_⟩
  · unfold onlyE; dsimp only; split; exact h.object; exact z.object
  · unfold onlyE; dsimp only; split; exact h.req; exact z.req
  · unfold onlyE; dsimp only; split; exact h.met; exact z.met
  · unfold onlyE; dsimp only; split; exact h.ans; exact z.ans
  · unfold onlyE; dsimp only; split; exact h.fet; exact z.fet
  · unfold onlyE; dsimp only; split; exact h.rep; exact z.rep
  · unfold onlyE; dsimp only; split; exact h.bytes; exact z.bytes
  · unfold onlyE; dsimp only; split; exact h.keys; exact z.keys
set_option maxRecDepth 100000 in
set_option maxHeartbeats 1600000 in
theorem fit_no0 (w : World) (e : EvtR) (h0 : ¬ 1 ≤ e.kind) :
    Calls Tryz.prog 32 #[.agg e.cells.toArray] w fun r w' => r = .returned (.bool false) ∧ Below w.heap.size w w' := by
  have B := below_new w (.cells e.cells.toArray 45)
  have bE := Blk.new w 45 e.cells.toArray
  have d0 : decide (1 ≤ e.kind) = false := decide_eq_false h0
  go_enter Tryz.func32, Tryz.ntmps32
  go_upto_region 2 with (fail)
  generalize w.alloc (.cells e.cells.toArray 45) = w1 at *
  have c0 := growc (bE.at_ (i := 0) (v := .int .i64 e.kind) rfl)
  have c1 := growc (bE.at_ (i := 1) (v := .int .i64 e.tick) rfl)
  have c2 := growc (bE.at_ (i := 2) (v := .int .i64 e.node) rfl)
  have c3 := growc (bE.at_ (i := 3) (v := .int .i64 e.who) rfl)
  clear h0
  refine wp_region_grow (by kernel_rfl) (by kernel_rfl) ?_
  repeat (go_big_quiet_step (fail))
  refine wpQuiet_nil ?_
  rintro w' ⟨r, rfl⟩
  have BB := B.trans ((grow_below w1 r).mono B.size)
  clear c0 c1 c2 c3 bE d0
  go_wp2
  go_ret
  exact ⟨rfl, BB⟩
set_option maxRecDepth 100000 in
set_option maxHeartbeats 1600000 in
theorem fit_no1 (w : World) (e : EvtR) (h0 : 1 ≤ e.kind) (h1 : ¬ e.kind ≤ 16) :
    Calls Tryz.prog 32 #[.agg e.cells.toArray] w fun r w' => r = .returned (.bool false) ∧ Below w.heap.size w w' := by
  have B := below_new w (.cells e.cells.toArray 45)
  have bE := Blk.new w 45 e.cells.toArray
  have d0 : decide (1 ≤ e.kind) = true := decide_eq_true h0
  have d1 : decide (e.kind ≤ 16) = false := decide_eq_false h1
  go_enter Tryz.func32, Tryz.ntmps32
  go_upto_region 2 with (fail)
  generalize w.alloc (.cells e.cells.toArray 45) = w1 at *
  have c0 := growc (bE.at_ (i := 0) (v := .int .i64 e.kind) rfl)
  have c1 := growc (bE.at_ (i := 1) (v := .int .i64 e.tick) rfl)
  have c2 := growc (bE.at_ (i := 2) (v := .int .i64 e.node) rfl)
  have c3 := growc (bE.at_ (i := 3) (v := .int .i64 e.who) rfl)
  clear h0 h1
  refine wp_region_grow (by kernel_rfl) (by kernel_rfl) ?_
  repeat (go_big_quiet_step (fail))
  refine wpQuiet_nil ?_
  rintro w' ⟨r, rfl⟩
  have BB := B.trans ((grow_below w1 r).mono B.size)
  clear c0 c1 c2 c3 bE d0 d1
  go_wp2
  go_ret
  exact ⟨rfl, BB⟩
set_option maxRecDepth 100000 in
set_option maxHeartbeats 1600000 in
theorem fit_no2 (w : World) (e : EvtR) (h0 : 1 ≤ e.kind) (h1 : e.kind ≤ 16) (h2 : ¬ 0 ≤ e.tick) :
    Calls Tryz.prog 32 #[.agg e.cells.toArray] w fun r w' => r = .returned (.bool false) ∧ Below w.heap.size w w' := by
  have B := below_new w (.cells e.cells.toArray 45)
  have bE := Blk.new w 45 e.cells.toArray
  have d0 : decide (1 ≤ e.kind) = true := decide_eq_true h0
  have d1 : decide (e.kind ≤ 16) = true := decide_eq_true h1
  have d2 : decide (0 ≤ e.tick) = false := decide_eq_false h2
  go_enter Tryz.func32, Tryz.ntmps32
  go_upto_region 2 with (fail)
  generalize w.alloc (.cells e.cells.toArray 45) = w1 at *
  have c0 := growc (bE.at_ (i := 0) (v := .int .i64 e.kind) rfl)
  have c1 := growc (bE.at_ (i := 1) (v := .int .i64 e.tick) rfl)
  have c2 := growc (bE.at_ (i := 2) (v := .int .i64 e.node) rfl)
  have c3 := growc (bE.at_ (i := 3) (v := .int .i64 e.who) rfl)
  clear h0 h1 h2
  refine wp_region_grow (by kernel_rfl) (by kernel_rfl) ?_
  repeat (go_big_quiet_step (fail))
  refine wpQuiet_nil ?_
  rintro w' ⟨r, rfl⟩
  have BB := B.trans ((grow_below w1 r).mono B.size)
  clear c0 c1 c2 c3 bE d0 d1 d2
  go_wp2
  go_ret
  exact ⟨rfl, BB⟩
set_option maxRecDepth 100000 in
set_option maxHeartbeats 1600000 in
theorem fit_no3 (w : World) (e : EvtR) (h0 : 1 ≤ e.kind) (h1 : e.kind ≤ 16) (h2 : 0 ≤ e.tick) (h3 : ¬ e.tick ≤ 1099511627776) :
    Calls Tryz.prog 32 #[.agg e.cells.toArray] w fun r w' => r = .returned (.bool false) ∧ Below w.heap.size w w' := by
  have B := below_new w (.cells e.cells.toArray 45)
  have bE := Blk.new w 45 e.cells.toArray
  have d0 : decide (1 ≤ e.kind) = true := decide_eq_true h0
  have d1 : decide (e.kind ≤ 16) = true := decide_eq_true h1
  have d2 : decide (0 ≤ e.tick) = true := decide_eq_true h2
  have d3 : decide (e.tick ≤ 1099511627776) = false := decide_eq_false h3
  go_enter Tryz.func32, Tryz.ntmps32
  go_upto_region 2 with (fail)
  generalize w.alloc (.cells e.cells.toArray 45) = w1 at *
  have c0 := growc (bE.at_ (i := 0) (v := .int .i64 e.kind) rfl)
  have c1 := growc (bE.at_ (i := 1) (v := .int .i64 e.tick) rfl)
  have c2 := growc (bE.at_ (i := 2) (v := .int .i64 e.node) rfl)
  have c3 := growc (bE.at_ (i := 3) (v := .int .i64 e.who) rfl)
  clear h0 h1 h2 h3
  refine wp_region_grow (by kernel_rfl) (by kernel_rfl) ?_
  repeat (go_big_quiet_step (fail))
  refine wpQuiet_nil ?_
  rintro w' ⟨r, rfl⟩
  have BB := B.trans ((grow_below w1 r).mono B.size)
  clear c0 c1 c2 c3 bE d0 d1 d2 d3
  go_wp2
  go_ret
  exact ⟨rfl, BB⟩
set_option maxRecDepth 100000 in
set_option maxHeartbeats 1600000 in
theorem fit_no4 (w : World) (e : EvtR) (h0 : 1 ≤ e.kind) (h1 : e.kind ≤ 16) (h2 : 0 ≤ e.tick) (h3 : e.tick ≤ 1099511627776) (h4 : ¬ 0 ≤ e.node) :
    Calls Tryz.prog 32 #[.agg e.cells.toArray] w fun r w' => r = .returned (.bool false) ∧ Below w.heap.size w w' := by
  have B := below_new w (.cells e.cells.toArray 45)
  have bE := Blk.new w 45 e.cells.toArray
  have d0 : decide (1 ≤ e.kind) = true := decide_eq_true h0
  have d1 : decide (e.kind ≤ 16) = true := decide_eq_true h1
  have d2 : decide (0 ≤ e.tick) = true := decide_eq_true h2
  have d3 : decide (e.tick ≤ 1099511627776) = true := decide_eq_true h3
  have d4 : decide (0 ≤ e.node) = false := decide_eq_false h4
  go_enter Tryz.func32, Tryz.ntmps32
  go_upto_region 2 with (fail)
  generalize w.alloc (.cells e.cells.toArray 45) = w1 at *
  have c0 := growc (bE.at_ (i := 0) (v := .int .i64 e.kind) rfl)
  have c1 := growc (bE.at_ (i := 1) (v := .int .i64 e.tick) rfl)
  have c2 := growc (bE.at_ (i := 2) (v := .int .i64 e.node) rfl)
  have c3 := growc (bE.at_ (i := 3) (v := .int .i64 e.who) rfl)
  clear h0 h1 h2 h3 h4
  refine wp_region_grow (by kernel_rfl) (by kernel_rfl) ?_
  repeat (go_big_quiet_step (fail))
  refine wpQuiet_nil ?_
  rintro w' ⟨r, rfl⟩
  have BB := B.trans ((grow_below w1 r).mono B.size)
  clear c0 c1 c2 c3 bE d0 d1 d2 d3 d4
  go_wp2
  go_ret
  exact ⟨rfl, BB⟩
set_option maxRecDepth 100000 in
set_option maxHeartbeats 1600000 in
theorem fit_no5 (w : World) (e : EvtR) (h0 : 1 ≤ e.kind) (h1 : e.kind ≤ 16) (h2 : 0 ≤ e.tick) (h3 : e.tick ≤ 1099511627776) (h4 : 0 ≤ e.node) (h5 : ¬ e.node ≤ 1099511627776) :
    Calls Tryz.prog 32 #[.agg e.cells.toArray] w fun r w' => r = .returned (.bool false) ∧ Below w.heap.size w w' := by
  have B := below_new w (.cells e.cells.toArray 45)
  have bE := Blk.new w 45 e.cells.toArray
  have d0 : decide (1 ≤ e.kind) = true := decide_eq_true h0
  have d1 : decide (e.kind ≤ 16) = true := decide_eq_true h1
  have d2 : decide (0 ≤ e.tick) = true := decide_eq_true h2
  have d3 : decide (e.tick ≤ 1099511627776) = true := decide_eq_true h3
  have d4 : decide (0 ≤ e.node) = true := decide_eq_true h4
  have d5 : decide (e.node ≤ 1099511627776) = false := decide_eq_false h5
  go_enter Tryz.func32, Tryz.ntmps32
  go_upto_region 2 with (fail)
  generalize w.alloc (.cells e.cells.toArray 45) = w1 at *
  have c0 := growc (bE.at_ (i := 0) (v := .int .i64 e.kind) rfl)
  have c1 := growc (bE.at_ (i := 1) (v := .int .i64 e.tick) rfl)
  have c2 := growc (bE.at_ (i := 2) (v := .int .i64 e.node) rfl)
  have c3 := growc (bE.at_ (i := 3) (v := .int .i64 e.who) rfl)
  clear h0 h1 h2 h3 h4 h5
  refine wp_region_grow (by kernel_rfl) (by kernel_rfl) ?_
  repeat (go_big_quiet_step (fail))
  refine wpQuiet_nil ?_
  rintro w' ⟨r, rfl⟩
  have BB := B.trans ((grow_below w1 r).mono B.size)
  clear c0 c1 c2 c3 bE d0 d1 d2 d3 d4 d5
  go_wp2
  go_ret
  exact ⟨rfl, BB⟩
set_option maxRecDepth 100000 in
set_option maxHeartbeats 1600000 in
theorem fit_no6 (w : World) (e : EvtR) (h0 : 1 ≤ e.kind) (h1 : e.kind ≤ 16) (h2 : 0 ≤ e.tick) (h3 : e.tick ≤ 1099511627776) (h4 : 0 ≤ e.node) (h5 : e.node ≤ 1099511627776) (h6 : ¬ 0 ≤ e.who) :
    Calls Tryz.prog 32 #[.agg e.cells.toArray] w fun r w' => r = .returned (.bool false) ∧ Below w.heap.size w w' := by
  have B := below_new w (.cells e.cells.toArray 45)
  have bE := Blk.new w 45 e.cells.toArray
  have d0 : decide (1 ≤ e.kind) = true := decide_eq_true h0
  have d1 : decide (e.kind ≤ 16) = true := decide_eq_true h1
  have d2 : decide (0 ≤ e.tick) = true := decide_eq_true h2
  have d3 : decide (e.tick ≤ 1099511627776) = true := decide_eq_true h3
  have d4 : decide (0 ≤ e.node) = true := decide_eq_true h4
  have d5 : decide (e.node ≤ 1099511627776) = true := decide_eq_true h5
  have d6 : decide (0 ≤ e.who) = false := decide_eq_false h6
  go_enter Tryz.func32, Tryz.ntmps32
  go_upto_region 2 with (fail)
  generalize w.alloc (.cells e.cells.toArray 45) = w1 at *
  have c0 := growc (bE.at_ (i := 0) (v := .int .i64 e.kind) rfl)
  have c1 := growc (bE.at_ (i := 1) (v := .int .i64 e.tick) rfl)
  have c2 := growc (bE.at_ (i := 2) (v := .int .i64 e.node) rfl)
  have c3 := growc (bE.at_ (i := 3) (v := .int .i64 e.who) rfl)
  clear h0 h1 h2 h3 h4 h5 h6
  refine wp_region_grow (by kernel_rfl) (by kernel_rfl) ?_
  repeat (go_big_quiet_step (fail))
  refine wpQuiet_nil ?_
  rintro w' ⟨r, rfl⟩
  have BB := B.trans ((grow_below w1 r).mono B.size)
  clear c0 c1 c2 c3 bE d0 d1 d2 d3 d4 d5 d6
  go_wp2
  go_ret
  exact ⟨rfl, BB⟩
set_option maxRecDepth 100000 in
set_option maxHeartbeats 1600000 in
theorem fit_no7 (w : World) (e : EvtR) (h0 : 1 ≤ e.kind) (h1 : e.kind ≤ 16) (h2 : 0 ≤ e.tick) (h3 : e.tick ≤ 1099511627776) (h4 : 0 ≤ e.node) (h5 : e.node ≤ 1099511627776) (h6 : 0 ≤ e.who) (h7 : ¬ e.who ≤ 1099511627776) :
    Calls Tryz.prog 32 #[.agg e.cells.toArray] w fun r w' => r = .returned (.bool false) ∧ Below w.heap.size w w' := by
  have B := below_new w (.cells e.cells.toArray 45)
  have bE := Blk.new w 45 e.cells.toArray
  have d0 : decide (1 ≤ e.kind) = true := decide_eq_true h0
  have d1 : decide (e.kind ≤ 16) = true := decide_eq_true h1
  have d2 : decide (0 ≤ e.tick) = true := decide_eq_true h2
  have d3 : decide (e.tick ≤ 1099511627776) = true := decide_eq_true h3
  have d4 : decide (0 ≤ e.node) = true := decide_eq_true h4
  have d5 : decide (e.node ≤ 1099511627776) = true := decide_eq_true h5
  have d6 : decide (0 ≤ e.who) = true := decide_eq_true h6
  have d7 : decide (e.who ≤ 1099511627776) = false := decide_eq_false h7
  go_enter Tryz.func32, Tryz.ntmps32
  go_upto_region 2 with (fail)
  generalize w.alloc (.cells e.cells.toArray 45) = w1 at *
  have c0 := growc (bE.at_ (i := 0) (v := .int .i64 e.kind) rfl)
  have c1 := growc (bE.at_ (i := 1) (v := .int .i64 e.tick) rfl)
  have c2 := growc (bE.at_ (i := 2) (v := .int .i64 e.node) rfl)
  have c3 := growc (bE.at_ (i := 3) (v := .int .i64 e.who) rfl)
  clear h0 h1 h2 h3 h4 h5 h6 h7
  refine wp_region_grow (by kernel_rfl) (by kernel_rfl) ?_
  repeat (go_big_quiet_step (fail))
  refine wpQuiet_nil ?_
  rintro w' ⟨r, rfl⟩
  have BB := B.trans ((grow_below w1 r).mono B.size)
  clear c0 c1 c2 c3 bE d0 d1 d2 d3 d4 d5 d6 d7
  go_wp2
  go_ret
  exact ⟨rfl, BB⟩
set_option maxRecDepth 100000 in
set_option maxHeartbeats 1600000 in
theorem fit_all (w : World) (e : EvtR) (h0 : 1 ≤ e.kind) (h1 : e.kind ≤ 16) (h2 : 0 ≤ e.tick) (h3 : e.tick ≤ 1099511627776) (h4 : 0 ≤ e.node) (h5 : e.node ≤ 1099511627776) (h6 : 0 ≤ e.who) (h7 : e.who ≤ 1099511627776) (h : EvtOK w e) (hp : ShortE e.abs) :
    Calls Tryz.prog 32 #[.agg e.cells.toArray] w fun r w' => r = .returned (.bool (sm e.abs (onlyE e.abs))) ∧ Below w.heap.size w w' := by
  have B := below_new w (.cells e.cells.toArray 45)
  have bE := Blk.new w 45 e.cells.toArray
  have d0 : decide (1 ≤ e.kind) = true := decide_eq_true h0
  have d1 : decide (e.kind ≤ 16) = true := decide_eq_true h1
  have d2 : decide (0 ≤ e.tick) = true := decide_eq_true h2
  have d3 : decide (e.tick ≤ 1099511627776) = true := decide_eq_true h3
  have d4 : decide (0 ≤ e.node) = true := decide_eq_true h4
  have d5 : decide (e.node ≤ 1099511627776) = true := decide_eq_true h5
  have d6 : decide (0 ≤ e.who) = true := decide_eq_true h6
  have d7 : decide (e.who ≤ 1099511627776) = true := decide_eq_true h7
  go_enter Tryz.func32, Tryz.ntmps32
  go_upto_region 2 with (fail)
  generalize w.alloc (.cells e.cells.toArray 45) = w1 at *
  have c0 := growc (bE.at_ (i := 0) (v := .int .i64 e.kind) rfl)
  have c1 := growc (bE.at_ (i := 1) (v := .int .i64 e.tick) rfl)
  have c2 := growc (bE.at_ (i := 2) (v := .int .i64 e.node) rfl)
  have c3 := growc (bE.at_ (i := 3) (v := .int .i64 e.who) rfl)
  have hk : 1 ≤ e.kind ∧ e.kind ≤ 16 := ⟨h0, h1⟩
  have hE := h.below B
  have hO := onlyR_ok hE
  have pO : ShortE (onlyR e).abs := by rw [onlyR_abs]; exact hp.only
  have hl := load_evt bE
  have ho := onlyR_abs e
  clear h0 h1 h2 h3 h4 h5 h6 h7 h
  refine wp_region_grow (by kernel_rfl) (by kernel_rfl) ?_
  repeat (go_big_quiet_step (fail))
  with_reducible refine wpQuiet_load (by kernel_rfl) 45 (.tmp 1) rfl (.pointer (some ⟨w.heap.size, 0, none⟩)) (by kernel_rfl) (.agg e.cells.toArray) (by rintro w' ⟨r, rfl⟩; exact hl.out r) ?_
  go_frame
  with_reducible refine wpQuiet_load (by kernel_rfl) 45 (.tmp 1) rfl (.pointer (some ⟨w.heap.size, 0, none⟩)) (by kernel_rfl) (.agg e.cells.toArray) (by rintro w' ⟨r, rfl⟩; exact hl.out r) ?_
  go_frame
  go_big_quiet_step (first | (go_at_call 74; exact donlyC_grow _ _ e hk))
  go_big_quiet_step (first | (go_at_call 17; exact dalikeC_grow _ _ hE hO hp pO))
  repeat (go_big_quiet_step (fail))
  refine wpQuiet_nil ?_
  rintro w' ⟨r, rfl⟩
  have BB := B.trans ((grow_below w1 r).mono B.size)
  clear c0 c1 c2 c3 bE hl d0 d1 d2 d3 d4 d5 d6 d7
  go_wp2
  go_ret
  exact ⟨rfl, BB⟩
theorem fit_calls (w : World) (e : EvtR) (h : EvtOK w e) (hp : ShortE e.abs) :
    Calls Tryz.prog 32 #[.agg e.cells.toArray] w fun r w' => r = .returned (.bool (rightB e.abs)) ∧ Below w.heap.size w w' := by
  have no : ¬ RightE e.abs → rightB e.abs = false := fun hn => by
    cases hq : rightB e.abs with
    | false => rfl
    | true => exact absurd ((rightB_iff _).1 hq) hn
  by_cases h0 : 1 ≤ e.kind
  case neg =>
    rw [no (fun hR => h0 hR.1.1.1)]
    exact fit_no0 w e h0
  by_cases h1 : e.kind ≤ 16
  case neg =>
    rw [no (fun hR => h1 hR.1.1.2)]
    exact fit_no1 w e h0 h1
  by_cases h2 : 0 ≤ e.tick
  case neg =>
    rw [no (fun hR => h2 hR.1.2.1.1)]
    exact fit_no2 w e h0 h1 h2
  by_cases h3 : e.tick ≤ 1099511627776
  case neg =>
    rw [no (fun hR => h3 hR.1.2.1.2)]
    exact fit_no3 w e h0 h1 h2 h3
  by_cases h4 : 0 ≤ e.node
  case neg =>
    rw [no (fun hR => h4 hR.1.2.2.1.1)]
    exact fit_no4 w e h0 h1 h2 h3 h4
  by_cases h5 : e.node ≤ 1099511627776
  case neg =>
    rw [no (fun hR => h5 hR.1.2.2.1.2)]
    exact fit_no5 w e h0 h1 h2 h3 h4 h5
  by_cases h6 : 0 ≤ e.who
  case neg =>
    rw [no (fun hR => h6 hR.1.2.2.2.1)]
    exact fit_no6 w e h0 h1 h2 h3 h4 h5 h6
  by_cases h7 : e.who ≤ 1099511627776
  case neg =>
    rw [no (fun hR => h7 hR.1.2.2.2.2)]
    exact fit_no7 w e h0 h1 h2 h3 h4 h5 h6 h7
  have hr : rightB e.abs = sm e.abs (onlyE e.abs) := by
    cases hq : sm e.abs (onlyE e.abs) with
    | true => exact (rightB_iff _).2 ⟨⟨⟨h0, h1⟩, ⟨h2, h3⟩, ⟨h4, h5⟩, ⟨h6, h7⟩⟩, (sm_iff _ _).1 hq⟩
    | false => exact no (fun hR => by rw [sm_true hR.2] at hq; cases hq)
  rw [hr]
  exact fit_all w e h0 h1 h2 h3 h4 h5 h6 h7 h hp
end Go.Proofs.YtiokbebodblhaaaGreatDoor
