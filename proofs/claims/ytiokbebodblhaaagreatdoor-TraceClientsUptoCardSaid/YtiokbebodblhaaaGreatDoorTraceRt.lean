/-
  Walk: is an event right.
-/
import Derived.Test.YtiokbebodblhaaaGreatDoorTraceAlike
import Derived.Test.YtiokbebodblhaaaGreatDoorTraceOnly
import Derived.Test.YtiokbebodblhaaaGreatDoorTraceLineW
import Derived.Test.YtiokbebodblhaaaGreatDoorTMemo
namespace Go.Proofs.YtiokbebodblhaaaGreatDoor
open Go.RowKit TraceP

theorem wpQuiet_load {P : Program} {ops : Array Oper} {C : World → Prop} {Q : Act → Prop} {a : Act} {o : Oper} {rest : List Oper} (hw : Region.wanted o (yielded ops a.tmps) = true) (ty : TypeId) (x : Operand) (ho : o.op = .load ty x) (p : Value) (hx : a.eval x = p) (v : Value)
    (hl : ∀ w, C w → (Instr.loadAt ty p).run P w = .ok v w) (h : wpQuiet P ops C Q rest (a.put o.dst v)) : wpQuiet P ops C Q (o :: rest) a :=
  BigFrame.wpQuiet_want hw fun K hK => ⟨v, fun w hC => by
    unfold Oper.quietAt
    have e : (execOp a.eval o).run P w = .ok (.value v) w := by
      unfold execOp
      simp only [ho, hx, Sem.run_bind, Sem.run_pure, hl w hC, Result.andThen_ok]
    rw [e]
    exact ⟨rfl, rfl⟩, hK _ h⟩
def inB (n : Int) : Prop := 0 ≤ n ∧ n ≤ 1099511627776
theorem in_yes (w : World) (n : Int) (h : inB n) : Calls Tryz.prog 60 #[.int .i64 n] w fun e w' => e = .returned (.bool true) ∧ w = w' := by
  obtain ⟨h0, h1⟩ := h
  have d0 : decide (0 ≤ n) = true := decide_eq_true h0
  have d1 : decide (n ≤ 1099511627776) = true := decide_eq_true h1
  go_enter Tryz.func60, Tryz.ntmps60
  go_wp2
  go_ret
  exact ⟨rfl, rfl⟩
theorem in_no (w : World) (n : Int) (h : ¬ inB n) : Calls Tryz.prog 60 #[.int .i64 n] w fun e w' => e = .returned (.bool false) ∧ w = w' := by
  by_cases h0 : 0 ≤ n
  · have h1 : ¬ n ≤ 1099511627776 := fun h1 => h ⟨h0, h1⟩
    clear h
    have d0 : decide (0 ≤ n) = true := decide_eq_true h0
    have d1 : decide (n ≤ 1099511627776) = false := decide_eq_false h1
    go_enter Tryz.func60, Tryz.ntmps60
    go_wp2
    go_ret
    exact ⟨rfl, rfl⟩
  · clear h
    have d0 : decide (0 ≤ n) = false := decide_eq_false h0
    go_enter Tryz.func60, Tryz.ntmps60
    go_wp2
    go_ret
    exact ⟨rfl, rfl⟩
theorem name_none (n : Int) (hn : n < 1 ∨ 17 ≤ n) (w : World) : Calls Tryz.prog 61 #[.int .i64 n] w fun e w' => e = .returned (.string (bstr [])) ∧ w = w' := by
  rcases hn with hn | hn
  · have d0 : decide (n < 1) = true := decide_eq_true hn
    go_enter Tryz.func61, Tryz.ntmps61
    go_wp2
    go_ret
    exact ⟨rfl, rfl⟩
  · have d0 : decide (n < 1) = false := decide_eq_false (by omega)
    have d1 : decide (17 ≤ n) = true := decide_eq_true hn
    go_enter Tryz.func61, Tryz.ntmps61
    go_wp2
    go_ret
    exact ⟨rfl, rfl⟩
theorem name_grow (w r : World) (n : Int) (k : Nat) (hn : n = (k : Int)) (hk : k ≤ 16) (hS : Std w) : Calls Tryz.prog 61 #[.int .i64 n] (grow w r) fun e w' => e = .returned (.string (bstr (kindT k))) ∧ ∃ r', w' = grow w r' :=
  calls_grow_same (name_calls n k hn hk (grow w r) (hS.below (grow_below w r)))
theorem none_grow (w r : World) (n : Int) (hn : n < 1 ∨ 17 ≤ n) : Calls Tryz.prog 61 #[.int .i64 n] (grow w r) fun e w' => e = .returned (.string (bstr [])) ∧ ∃ r', w' = grow w r' :=
  calls_grow_same (name_none n hn (grow w r))
theorem yes_grow (w r : World) (n : Int) (h : inB n) : Calls Tryz.prog 60 #[.int .i64 n] (grow w r) fun e w' => e = .returned (.bool true) ∧ ∃ r', w' = grow w r' :=
  calls_grow_same (in_yes (grow w r) n h)
theorem no_grow (w r : World) (n : Int) (h : ¬ inB n) : Calls Tryz.prog 60 #[.int .i64 n] (grow w r) fun e w' => e = .returned (.bool false) ∧ ∃ r', w' = grow w r' :=
  calls_grow_same (in_no (grow w r) n h)
theorem only_grow (w r : World) (e : EvtR) (hk : 1 ≤ e.kind ∧ e.kind ≤ 16) : Calls Tryz.prog 62 #[.agg e.cells.toArray] (grow w r) fun x w' => x = .returned (.agg (onlyR e).cells.toArray) ∧ ∃ r', w' = grow w r' :=
  calls_grow (only_calls (grow w r) e hk)
theorem alike_grow (w r : World) (a b : EvtR) (ha : EvtOK w a) (hb : EvtOK w b) : Calls Tryz.prog 50 #[.agg a.cells.toArray, .agg b.cells.toArray] (grow w r) fun x w' => x = .returned (.bool (sm a.abs b.abs)) ∧ ∃ r', w' = grow w r' :=
  calls_grow (alike_calls (grow w r) a b (ha.below (grow_below w r)) (hb.below (grow_below w r)))
set_option maxRecDepth 100000 in
set_option maxHeartbeats 1600000 in
theorem right_kind (w : World) (hS : Std w) (e : EvtR) (_h : EvtOK w e) (hk : e.kind < 1 ∨ 17 ≤ e.kind) :
    Calls Tryz.prog 30 #[.agg e.cells.toArray] w fun r w' => r = .returned (.bool false) ∧ Below w.heap.size w w' := by
  have B := below_new w (.cells e.cells.toArray 45)
  have bE := Blk.new w 45 e.cells.toArray
  have ne : (bstr []).toList.isEmpty = true := by rw [bstr_list]; rfl
  go_enter Tryz.func30, Tryz.ntmps30
  go_upto_region 2 with (fail)
  generalize w.alloc (.cells e.cells.toArray 45) = w1 at *
  have S1 := hS.below B
  have c0 := growc (bE.at_ (i := 0) (v := .int .i64 e.kind) rfl)
  have c1 := growc (bE.at_ (i := 1) (v := .int .i64 e.tick) rfl)
  have c2 := growc (bE.at_ (i := 2) (v := .int .i64 e.node) rfl)
  have c3 := growc (bE.at_ (i := 3) (v := .int .i64 e.who) rfl)
  refine wp_region_grow (by kernel_rfl) (by kernel_rfl) ?_
  repeat (first | go_big_quiet_step (fail) | go_big_quiet_step (first | (go_at_call 61; exact none_grow _ _ _ hk)))
  refine wpQuiet_nil ?_
  rintro w' ⟨r, rfl⟩
  have BB := B.trans ((grow_below w1 r).mono B.size)
  clear ne c0 c1 c2 c3 S1
  go_wp2
  go_ret
  exact ⟨rfl, BB⟩
set_option maxRecDepth 100000 in
set_option maxHeartbeats 1600000 in
theorem right_tick (w : World) (hS : Std w) (e : EvtR) (_h : EvtOK w e) (k : Nat) (hk : e.kind = (k : Int) ∧ 1 ≤ k ∧ k ≤ 16) (h1 : ¬ inB e.tick) :
    Calls Tryz.prog 30 #[.agg e.cells.toArray] w fun r w' => r = .returned (.bool false) ∧ Below w.heap.size w w' := by
  have B := below_new w (.cells e.cells.toArray 45)
  have bE := Blk.new w 45 e.cells.toArray
  have ne : (bstr (kindT k)).toList.isEmpty = false := by rw [bstr_list]; have := (kindT_wd ⟨hk.2.1, hk.2.2⟩).1; cases hq : kindT k with | nil => exact absurd hq this | cons _ _ => rfl
  go_enter Tryz.func30, Tryz.ntmps30
  go_upto_region 2 with (fail)
  generalize w.alloc (.cells e.cells.toArray 45) = w1 at *
  have S1 := hS.below B
  have c0 := growc (bE.at_ (i := 0) (v := .int .i64 e.kind) rfl)
  have c1 := growc (bE.at_ (i := 1) (v := .int .i64 e.tick) rfl)
  have c2 := growc (bE.at_ (i := 2) (v := .int .i64 e.node) rfl)
  have c3 := growc (bE.at_ (i := 3) (v := .int .i64 e.who) rfl)
  refine wp_region_grow (by kernel_rfl) (by kernel_rfl) ?_
  repeat (first | go_big_quiet_step (fail) | go_big_quiet_step (first | (go_at_call 61; exact name_grow _ _ _ k rfl hk.2.2 S1) | (go_at_call 60; first | exact no_grow _ _ _ h1)))
  refine wpQuiet_nil ?_
  rintro w' ⟨r, rfl⟩
  have BB := B.trans ((grow_below w1 r).mono B.size)
  clear ne c0 c1 c2 c3 S1
  go_wp2
  go_ret
  exact ⟨rfl, BB⟩
set_option maxRecDepth 100000 in
set_option maxHeartbeats 1600000 in
theorem right_node (w : World) (hS : Std w) (e : EvtR) (_h : EvtOK w e) (k : Nat) (hk : e.kind = (k : Int) ∧ 1 ≤ k ∧ k ≤ 16) (h1 : inB e.tick) (h2 : ¬ inB e.node) :
    Calls Tryz.prog 30 #[.agg e.cells.toArray] w fun r w' => r = .returned (.bool false) ∧ Below w.heap.size w w' := by
  have B := below_new w (.cells e.cells.toArray 45)
  have bE := Blk.new w 45 e.cells.toArray
  have ne : (bstr (kindT k)).toList.isEmpty = false := by rw [bstr_list]; have := (kindT_wd ⟨hk.2.1, hk.2.2⟩).1; cases hq : kindT k with | nil => exact absurd hq this | cons _ _ => rfl
  go_enter Tryz.func30, Tryz.ntmps30
  go_upto_region 2 with (fail)
  generalize w.alloc (.cells e.cells.toArray 45) = w1 at *
  have S1 := hS.below B
  have c0 := growc (bE.at_ (i := 0) (v := .int .i64 e.kind) rfl)
  have c1 := growc (bE.at_ (i := 1) (v := .int .i64 e.tick) rfl)
  have c2 := growc (bE.at_ (i := 2) (v := .int .i64 e.node) rfl)
  have c3 := growc (bE.at_ (i := 3) (v := .int .i64 e.who) rfl)
  refine wp_region_grow (by kernel_rfl) (by kernel_rfl) ?_
  repeat (first | go_big_quiet_step (fail) | go_big_quiet_step (first | (go_at_call 61; exact name_grow _ _ _ k rfl hk.2.2 S1) | (go_at_call 60; first | exact yes_grow _ _ _ h1 | exact no_grow _ _ _ h2)))
  refine wpQuiet_nil ?_
  rintro w' ⟨r, rfl⟩
  have BB := B.trans ((grow_below w1 r).mono B.size)
  clear ne c0 c1 c2 c3 S1
  go_wp2
  go_ret
  exact ⟨rfl, BB⟩
set_option maxRecDepth 100000 in
set_option maxHeartbeats 1600000 in
theorem right_who (w : World) (hS : Std w) (e : EvtR) (_h : EvtOK w e) (k : Nat) (hk : e.kind = (k : Int) ∧ 1 ≤ k ∧ k ≤ 16) (h1 : inB e.tick) (h2 : inB e.node) (h3 : ¬ inB e.who) :
    Calls Tryz.prog 30 #[.agg e.cells.toArray] w fun r w' => r = .returned (.bool false) ∧ Below w.heap.size w w' := by
  have B := below_new w (.cells e.cells.toArray 45)
  have bE := Blk.new w 45 e.cells.toArray
  have ne : (bstr (kindT k)).toList.isEmpty = false := by rw [bstr_list]; have := (kindT_wd ⟨hk.2.1, hk.2.2⟩).1; cases hq : kindT k with | nil => exact absurd hq this | cons _ _ => rfl
  go_enter Tryz.func30, Tryz.ntmps30
  go_upto_region 2 with (fail)
  generalize w.alloc (.cells e.cells.toArray 45) = w1 at *
  have S1 := hS.below B
  have c0 := growc (bE.at_ (i := 0) (v := .int .i64 e.kind) rfl)
  have c1 := growc (bE.at_ (i := 1) (v := .int .i64 e.tick) rfl)
  have c2 := growc (bE.at_ (i := 2) (v := .int .i64 e.node) rfl)
  have c3 := growc (bE.at_ (i := 3) (v := .int .i64 e.who) rfl)
  refine wp_region_grow (by kernel_rfl) (by kernel_rfl) ?_
  repeat (first | go_big_quiet_step (fail) | go_big_quiet_step (first | (go_at_call 61; exact name_grow _ _ _ k rfl hk.2.2 S1) | (go_at_call 60; first | exact yes_grow _ _ _ h1 | exact yes_grow _ _ _ h2 | exact no_grow _ _ _ h3)))
  refine wpQuiet_nil ?_
  rintro w' ⟨r, rfl⟩
  have BB := B.trans ((grow_below w1 r).mono B.size)
  clear ne c0 c1 c2 c3 S1
  go_wp2
  go_ret
  exact ⟨rfl, BB⟩
set_option maxRecDepth 100000 in
set_option maxHeartbeats 1600000 in
theorem right_all (w : World) (hS : Std w) (e : EvtR) (h : EvtOK w e) (k : Nat) (hk : e.kind = (k : Int) ∧ 1 ≤ k ∧ k ≤ 16) (h1 : inB e.tick) (h2 : inB e.node) (h3 : inB e.who) :
    Calls Tryz.prog 30 #[.agg e.cells.toArray] w fun r w' => r = .returned (.bool (sm e.abs (onlyE e.abs))) ∧ Below w.heap.size w w' := by
  have B := below_new w (.cells e.cells.toArray 45)
  have bE := Blk.new w 45 e.cells.toArray
  have ne : (bstr (kindT k)).toList.isEmpty = false := by rw [bstr_list]; have := (kindT_wd ⟨hk.2.1, hk.2.2⟩).1; cases hq : kindT k with | nil => exact absurd hq this | cons _ _ => rfl
  go_enter Tryz.func30, Tryz.ntmps30
  go_upto_region 2 with (fail)
  generalize w.alloc (.cells e.cells.toArray 45) = w1 at *
  have S1 := hS.below B
  have c0 := growc (bE.at_ (i := 0) (v := .int .i64 e.kind) rfl)
  have c1 := growc (bE.at_ (i := 1) (v := .int .i64 e.tick) rfl)
  have c2 := growc (bE.at_ (i := 2) (v := .int .i64 e.node) rfl)
  have c3 := growc (bE.at_ (i := 3) (v := .int .i64 e.who) rfl)
  have hl : Hid (∀ r, (Instr.loadAt 45 (.pointer (some ⟨w.heap.size, 0, none⟩))).run Tryz.prog (grow w1 r) = .ok (.agg e.cells.toArray) (grow w1 r)) := fun r =>
    run_loadAt_mid (grow w1 r) w.heap.size 0 45 e.cells _ (fun j v hv => by rw [Nat.zero_add, (bE.below (grow_below w1 r) bE.lt).cell]; simpa using hv) Tryz.underlying45 (by kernel_rfl) (by kernel_rfl)
  have hE := h.below B
  have ho := onlyR_abs e
  refine wp_region_grow (by kernel_rfl) (by kernel_rfl) ?_
  repeat (first | go_big_quiet_step (fail) | go_big_quiet_step (first | (go_at_call 61; exact name_grow _ _ _ k rfl hk.2.2 S1) | (go_at_call 60; first | exact yes_grow _ _ _ h1 | exact yes_grow _ _ _ h2 | exact yes_grow _ _ _ h3) | (go_at_call 62; exact only_grow _ _ e ⟨by omega, by omega⟩) | (go_at_call 50; exact alike_grow _ _ e (onlyR e) hE (onlyR_ok hE))))
  with_reducible refine wpQuiet_load (by kernel_rfl) 45 (.tmp 1) rfl (.pointer (some ⟨w.heap.size, 0, none⟩)) (by kernel_rfl) (.agg e.cells.toArray) (by rintro w' ⟨r, rfl⟩; exact hl.out r) ?_
  go_frame
  with_reducible refine wpQuiet_load (by kernel_rfl) 45 (.tmp 1) rfl (.pointer (some ⟨w.heap.size, 0, none⟩)) (by kernel_rfl) (.agg e.cells.toArray) (by rintro w' ⟨r, rfl⟩; exact hl.out r) ?_
  go_frame
  repeat (first | go_big_quiet_step (fail) | go_big_quiet_step (first | (go_at_call 61; exact name_grow _ _ _ k rfl hk.2.2 S1) | (go_at_call 60; first | exact yes_grow _ _ _ h1 | exact yes_grow _ _ _ h2 | exact yes_grow _ _ _ h3) | (go_at_call 62; exact only_grow _ _ e ⟨by omega, by omega⟩) | (go_at_call 50; exact alike_grow _ _ e (onlyR e) hE (onlyR_ok hE))))
  refine wpQuiet_nil ?_
  rintro w' ⟨r, rfl⟩
  have BB := B.trans ((grow_below w1 r).mono B.size)
  clear ne c0 c1 c2 c3 S1 hl
  go_wp2
  go_ret
  exact ⟨rfl, BB⟩
theorem right_calls (w : World) (hS : Std w) (e : EvtR) (h : EvtOK w e) :
    Calls Tryz.prog 30 #[.agg e.cells.toArray] w fun r w' => r = .returned (.bool (rightB e.abs)) ∧ Below w.heap.size w w' := by
  have no : ¬ RightE e.abs → rightB e.abs = false := fun hn => by
    cases hq : rightB e.abs with
    | false => rfl
    | true => exact absurd ((rightB_iff _).1 hq) hn
  by_cases hk : 1 ≤ e.kind ∧ e.kind ≤ 16
  · obtain ⟨k, hk0⟩ : ∃ k : Nat, e.kind = (k : Int) := ⟨e.kind.toNat, by omega⟩
    have hk' : e.kind = (k : Int) ∧ 1 ≤ k ∧ k ≤ 16 := ⟨hk0, by omega, by omega⟩
    by_cases h1 : inB e.tick
    · by_cases h2 : inB e.node
      · by_cases h3 : inB e.who
        · have hr : rightB e.abs = sm e.abs (onlyE e.abs) := by
            cases hq : sm e.abs (onlyE e.abs) with
            | true => exact (rightB_iff _).2 ⟨⟨hk, h1, h2, h3⟩, (sm_iff _ _).1 hq⟩
            | false => exact no (fun hR => by rw [sm_true hR.2] at hq; cases hq)
          rw [hr]
          exact right_all w hS e h k hk' h1 h2 h3
        · rw [no (fun hR => h3 hR.1.2.2.2)]
          exact right_who w hS e h k hk' h1 h2 h3
      · rw [no (fun hR => h2 hR.1.2.2.1)]
        exact right_node w hS e h k hk' h1 h2
    · rw [no (fun hR => h1 hR.1.2.1)]
      exact right_tick w hS e h k hk' h1
  · rw [no (fun hR => hk hR.1.1)]
    exact right_kind w hS e h (by omega)
end Go.Proofs.YtiokbebodblhaaaGreatDoor
