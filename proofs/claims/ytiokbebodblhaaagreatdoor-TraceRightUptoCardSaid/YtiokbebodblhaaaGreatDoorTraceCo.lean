/-
  Walks: the document's Could: can an event have happened so, behind others. Printed by couldgen.py.
-/
import Derived.Test.YtiokbebodblhaaaGreatDoorTraceLb
import Derived.Test.YtiokbebodblhaaaGreatDoorTraceDe
import Derived.Test.YtiokbebodblhaaaGreatDoorTMap
import Derived.Deep.CutRange
namespace Go.Proofs.YtiokbebodblhaaaGreatDoor
open Go.RowKit TraceP
attribute [local go_sem] Row.val

section
variable {e : Evt} {v w f : Nat} {g : Int}
theorem askB_1 (h : e.kind = 1) : askB e v w f g = ((e.met.have_ == (e.bytes.length : Int)) && (e.met.len == -1 || e.met.len == (e.bytes.length : Int))) := by unfold askB; simp [h]
theorem askB_2 (h : e.kind = 2) : askB e v w f g = ((v == 1) && decide (0 < e.bytes.length)) := by unfold askB; simp [h]
theorem askB_3 (h : e.kind = 3) : askB e v w f g = (v == 1) := by unfold askB; simp [h]
theorem askB_4 (h : e.kind = 4) : askB e v w f g = (decide (0 < v)) := by unfold askB; simp [h]
theorem askB_5 (h : e.kind = 5) : askB e v w f g = (decide (0 < e.keys.length)) := by unfold askB; simp [h]
theorem askB_6 (h : e.kind = 6) : askB e v w f g = (w == 0) := by unfold askB; simp [h]
theorem askB_7 (h : e.kind = 7) : askB e v w f g = (decide (0 < w)) := by unfold askB; simp [h]
theorem askB_8 (h : e.kind = 8) : askB e v w f g = (w == 1) := by unfold askB; simp [h]
theorem askB_9 (h : e.kind = 9) : askB e v w f g = ((w == 2) && decide (0 < e.bytes.length)) := by unfold askB; simp [h]
theorem askB_10 (h : e.kind = 10) : askB e v w f g = (w == 2) := by unfold askB; simp [h]
theorem askB_11 (h : e.kind = 11) : askB e v w f g = (decide (g < e.who)) := by unfold askB; simp [h]
theorem askB_12 (h : e.kind = 12) : askB e v w f g = (f == 1) := by unfold askB; simp [h]
theorem askB_13 (h : e.kind = 13) : askB e v w f g = ((f == 2) && decide (0 < e.bytes.length)) := by unfold askB; simp [h]
theorem askB_14 (h : e.kind = 14) : askB e v w f g = (decide (0 < f)) := by unfold askB; simp [h]
theorem askB_15 (h : e.kind = 15) : askB e v w f g = (decide (0 < f)) := by unfold askB; simp [h]
theorem askB_16 (h : e.kind = 16) : askB e v w f g = (true) := by unfold askB; simp [h]
end
theorem dfitC (w1 r0 : World) {e : EvtR} (h : EvtOK w1 e) (hp : ShortE e.abs) {b : Bool} (hb : rightB e.abs = b) : Calls Tryz.prog 32 #[.agg e.cells.toArray] (grow w1 r0) fun x w' => x = .returned (.bool b) ∧ ∃ r', w' = grow w1 r' :=
  calls_grow (hb ▸ fit_calls (grow w1 r0) e (h.below (grow_below w1 r0)) hp)
theorem dwaitC (w1 r0 : World) {A : Option Addr} {c : Nat} {l : List EvtR} (hr : EvsOK w1 A l c) (nd wh : Int) {v : Nat} (hv : waitF (absL l) nd wh = v) : Calls Tryz.prog 106 #[.slice A l.length c, .int .i64 nd, .int .i64 wh] (grow w1 r0) fun x w' => x = .returned (.int .i64 (v : Int)) ∧ ∃ r', w' = grow w1 r' :=
  calls_grow (hv ▸ dwait_calls (grow w1 r0) A c l (hr.below (grow_below w1 r0)) nd wh)
theorem dflyC (w1 r0 : World) {A : Option Addr} {c : Nat} {l : List EvtR} (hr : EvsOK w1 A l c) (nd wh : Int) {v : Nat} (hv : flyF (absL l) nd wh = v) : Calls Tryz.prog 107 #[.slice A l.length c, .int .i64 nd, .int .i64 wh] (grow w1 r0) fun x w' => x = .returned (.int .i64 (v : Int)) ∧ ∃ r', w' = grow w1 r' :=
  calls_grow (hv ▸ dfly_calls (grow w1 r0) A c l (hr.below (grow_below w1 r0)) nd wh)
theorem dgrtC (w1 r0 : World) {A : Option Addr} {c : Nat} {l : List EvtR} (hr : EvsOK w1 A l c) (nd : Int) {v : Int} (hv : grtF (absL l) nd = v) : Calls Tryz.prog 109 #[.slice A l.length c, .int .i64 nd] (grow w1 r0) fun x w' => x = .returned (.int .i64 v) ∧ ∃ r', w' = grow w1 r' :=
  calls_grow (hv ▸ dgrt_calls (grow w1 r0) A c l (hr.below (grow_below w1 r0)) nd)
set_option maxRecDepth 100000 in
set_option maxHeartbeats 3200000 in
theorem could_no (w : World) (A : Option Addr) (c : Nat) (l : List EvtR) (hr0 : EvsOK w A l c) (e : EvtR) (ho0 : EvtOK w e) (hp : ShortE e.abs) (_lm : l.length ≤ 100000) (hb : rightB e.abs = false) :
    Calls Tryz.prog 52 #[.slice A l.length c, .agg e.cells.toArray] w fun r w' => r = .returned (.bool (false)) ∧ Below w.heap.size w w' := by
  have B := below_new w (.cells e.cells.toArray 45)
  have bE := Blk.new w 45 e.cells.toArray
  go_enter Tryz.func52, Tryz.ntmps52
  go_upto_region 1 with fail
  revert B bE
  generalize w.alloc (.cells e.cells.toArray 45) = w1
  intro B bE
  have hr := hr0.below B
  have ho := ho0.below B
  obtain ⟨gE, hgE⟩ : ∃ g, g = w.heap.size := ⟨_, rfl⟩
  have B0 := Lib.hid B
  rw [← hgE] at bE ⊢
  clear hgE B hr0 ho0
  have hlE := load_evt bE
  with_reducible refine wp_region_grow (by kernel_rfl) (by kernel_rfl) ?_
  with_reducible refine wpQuiet_load (by kernel_rfl) 45 (.tmp 3) rfl (.pointer (some ⟨gE, 0, none⟩)) (by kernel_rfl) (.agg e.cells.toArray) (by rintro w' ⟨r, rfl⟩; exact hlE.out r) ?_
  go_frame
  go_big_quiet_step (first | (go_at_call 32; exact dfitC _ _ ho hp hb))
  repeat (go_big_quiet_step (fail))
  refine wpQuiet_nil ?_
  rintro w' ⟨r, rfl⟩
  have B2 := B0.out.trans ((grow_below w1 r).mono B0.out.size)
  clear hlE bE
  go_wp2_with fail
  go_ret
  exact ⟨rfl, B2⟩
set_option maxRecDepth 100000 in
set_option maxHeartbeats 3200000 in
theorem could_early (w : World) (A : Option Addr) (c : Nat) (l : List EvtR) (hr0 : EvsOK w A l c) (e : EvtR) (ho0 : EvtOK w e) (hp : ShortE e.abs) (lm : l.length ≤ 100000) (hb : rightB e.abs = true) (hn : 0 < l.length) (ht : e.tick < tickOf (absL l)) :
    Calls Tryz.prog 52 #[.slice A l.length c, .agg e.cells.toArray] w fun r w' => r = .returned (.bool (false)) ∧ Below w.heap.size w w' := by
  have B := below_new w (.cells e.cells.toArray 45)
  have bE := Blk.new w 45 e.cells.toArray
  go_enter Tryz.func52, Tryz.ntmps52
  go_upto_region 1 with fail
  revert B bE
  generalize w.alloc (.cells e.cells.toArray 45) = w1
  intro B bE
  have hr := hr0.below B
  have ho := ho0.below B
  obtain ⟨gE, hgE⟩ : ∃ g, g = w.heap.size := ⟨_, rfl⟩
  have B0 := Lib.hid B
  rw [← hgE] at bE ⊢
  clear hgE B hr0 ho0
  have hlE := load_evt bE
  obtain ⟨k, hk⟩ : ∃ k, l.length = k + 1 := ⟨l.length - 1, by omega⟩
  have hlt : k < l.length := by omega
  obtain ⟨b, off, rfl, hbs, hc⟩ := evt_at hr.rv hlt
  have ct : w1.cell? ⟨b, off + k * 57 + 1, none⟩ = some (.int .i64 l[k].tick) := hc 1 _ rfl
  replace ct := growc ct
  have c1 := growc (bE.at_ (i := 1) (v := .int .i64 e.tick) rfl)
  have hkt : l[k].tick = tickOf (absL l) := by
    unfold tickOf absL
    have e1 : (l.map EvtR.abs).getLast? = some (l[k].abs) := by
      rw [List.getLast?_eq_getElem?, List.length_map, hk, Nat.add_sub_cancel, List.getElem?_map, List.getElem?_eq_getElem hlt]
      rfl
    rw [e1]
    rfl
  generalize l[k].tick = lt at *
  have hlen : (l.length : Int) = (k : Int) + 1 := by omega
  have d0 : decide ((0 : Int) < (l.length : Int)) = true := decide_eq_true (by omega)
  have d1 : decide (k < l.length) = true := decide_eq_true hlt
  have d2 : decide ((k : Int) < (l.length : Int)) = true := decide_eq_true (by omega)
  have hwk : IntKind.i64.wrap ((l.length : Int) - 1) = (k : Int) := by rw [IntKind.wrap_i64]; omega
  have hwk2 : wrap64 ((l.length : Int) - 1) = (k : Int) := by unfold wrap64; omega
  have d3 : decide (e.tick < lt) = true := decide_eq_true (by omega)
  clear hkt hc hk hlen
  with_reducible refine wp_region_grow (by kernel_rfl) (by kernel_rfl) ?_
  with_reducible refine wpQuiet_load (by kernel_rfl) 45 (.tmp 3) rfl (.pointer (some ⟨gE, 0, none⟩)) (by kernel_rfl) (.agg e.cells.toArray) (by rintro w' ⟨r, rfl⟩; exact hlE.out r) ?_
  go_frame
  go_big_quiet_step (first | (go_at_call 32; exact dfitC _ _ ho hp hb))
  repeat (go_big_quiet_step (fail))
  refine wpQuiet_nil ?_
  rintro w' ⟨r, rfl⟩
  have B2 := B0.out.trans ((grow_below w1 r).mono B0.out.size)
  clear hlE bE hwk hwk2 d0 d1 d2 d3 ct c1
  go_wp2_with fail
  go_ret
  exact ⟨rfl, B2⟩
set_option maxRecDepth 100000 in
set_option maxHeartbeats 16000000 in
theorem could_goes (w : World) (A : Option Addr) (c : Nat) (l : List EvtR) (hr0 : EvsOK w A l c) (e : EvtR) (ho0 : EvtOK w e) (hp : ShortE e.abs) (lm : l.length ≤ 100000) (hb : rightB e.abs = true) (ht : 0 < l.length → ¬ e.tick < tickOf (absL l)) :
    Calls Tryz.prog 52 #[.slice A l.length c, .agg e.cells.toArray] w fun r w' => r = .returned (.bool (askB e.abs (verF (absL l) e.abs.object) (waitF (absL l) e.abs.node e.abs.who) (flyF (absL l) e.abs.node e.abs.who) (grtF (absL l) e.abs.node))) ∧ Below w.heap.size w w' := by
  have K16 : e.kind = 1 ∨ e.kind = 2 ∨ e.kind = 3 ∨ e.kind = 4 ∨ e.kind = 5 ∨ e.kind = 6 ∨ e.kind = 7 ∨ e.kind = 8 ∨ e.kind = 9 ∨ e.kind = 10 ∨ e.kind = 11 ∨ e.kind = 12 ∨ e.kind = 13 ∨ e.kind = 14 ∨ e.kind = 15 ∨ e.kind = 16 := by
    have := ((rightB_iff _).1 hb).1.1
    have h1 : 1 ≤ e.kind := this.1
    have h2 : e.kind ≤ 16 := this.2
    omega
  have B := below_new w (.cells e.cells.toArray 45)
  have bE := Blk.new w 45 e.cells.toArray
  obtain ⟨wv, hwv⟩ : ∃ x, waitF (absL l) e.abs.node e.abs.who = x := ⟨_, rfl⟩
  obtain ⟨fv, hfv⟩ : ∃ x, flyF (absL l) e.abs.node e.abs.who = x := ⟨_, rfl⟩
  obtain ⟨vv, hvv⟩ : ∃ x, verF (absL l) e.abs.object = x := ⟨_, rfl⟩
  obtain ⟨gv, hgv⟩ : ∃ x, grtF (absL l) e.abs.node = x := ⟨_, rfl⟩
  rw [hvv, hwv, hfv, hgv]
  go_enter Tryz.func52, Tryz.ntmps52
  go_upto_region 1 with fail
  revert B bE
  generalize w.alloc (.cells e.cells.toArray 45) = w1
  intro B bE
  have hr := hr0.below B
  have ho := ho0.below B
  obtain ⟨gE, hgE⟩ : ∃ g, g = w.heap.size := ⟨_, rfl⟩
  have B0 := Lib.hid B
  rw [← hgE] at bE ⊢
  clear hgE B hr0 ho0
  have hlE := load_evt bE
  go_cut [26] from 7 to 26 (fun v wx => v = .bool false ∧ ∃ r, wx = grow w1 r)
  case first =>
    by_cases hn : l.length = 0
    · have d0 : decide ((0 : Int) < (l.length : Int)) = false := decide_eq_false (by omega)
      have d0n : decide (0 < l.length) = false := decide_eq_false (by omega)
      clear hn ht
      with_reducible refine wp_region_grow (by kernel_rfl) (by kernel_rfl) ?_
      with_reducible refine wpQuiet_load (by kernel_rfl) 45 (.tmp 3) rfl (.pointer (some ⟨gE, 0, none⟩)) (by kernel_rfl) (.agg e.cells.toArray) (by rintro w' ⟨r, rfl⟩; exact hlE.out r) ?_
      go_frame
      go_big_quiet_step (first | (go_at_call 32; exact dfitC _ _ ho hp hb))
      repeat (go_big_quiet_step (fail))
      refine wpQuiet_nil ?_
      rintro w' ⟨r, rfl⟩
      go_wp2_with fail
      go_meet
      exact ⟨rfl, r, rfl⟩
    · replace hn : 0 < l.length := by omega
      replace ht := ht hn
      obtain ⟨k, hk⟩ : ∃ k, l.length = k + 1 := ⟨l.length - 1, by omega⟩
      have hlt : k < l.length := by omega
      obtain ⟨b, off, rfl, hbs, hc⟩ := evt_at hr.rv hlt
      have ct : w1.cell? ⟨b, off + k * 57 + 1, none⟩ = some (.int .i64 l[k].tick) := hc 1 _ rfl
      replace ct := growc ct
      have c1 := growc (bE.at_ (i := 1) (v := .int .i64 e.tick) rfl)
      have hkt : l[k].tick = tickOf (absL l) := by
        unfold tickOf absL
        have e1 : (l.map EvtR.abs).getLast? = some (l[k].abs) := by
          rw [List.getLast?_eq_getElem?, List.length_map, hk, Nat.add_sub_cancel, List.getElem?_map, List.getElem?_eq_getElem hlt]
          rfl
        rw [e1]
        rfl
      generalize l[k].tick = lt at *
      have hlen : (l.length : Int) = (k : Int) + 1 := by omega
      have d0 : decide ((0 : Int) < (l.length : Int)) = true := decide_eq_true (by omega)
      have d1 : decide (k < l.length) = true := decide_eq_true hlt
      have d2 : decide ((k : Int) < (l.length : Int)) = true := decide_eq_true (by omega)
      have hwk : IntKind.i64.wrap ((l.length : Int) - 1) = (k : Int) := by rw [IntKind.wrap_i64]; omega
      have hwk2 : wrap64 ((l.length : Int) - 1) = (k : Int) := by unfold wrap64; omega
      have d3 : decide (e.tick < lt) = false := decide_eq_false (by omega)
      clear hkt hc hk hlen
      with_reducible refine wp_region_grow (by kernel_rfl) (by kernel_rfl) ?_
      with_reducible refine wpQuiet_load (by kernel_rfl) 45 (.tmp 3) rfl (.pointer (some ⟨gE, 0, none⟩)) (by kernel_rfl) (.agg e.cells.toArray) (by rintro w' ⟨r, rfl⟩; exact hlE.out r) ?_
      go_frame
      go_big_quiet_step (first | (go_at_call 32; exact dfitC _ _ ho hp hb))
      repeat (go_big_quiet_step (fail))
      refine wpQuiet_nil ?_
      rintro w' ⟨r, rfl⟩
      go_wp2_with fail
      go_meet
      exact ⟨rfl, r, rfl⟩
  case rest =>
    obtain ⟨rfl, r, rfl⟩ := hcut
    have B2 := B0.out.trans ((grow_below w1 r).mono B0.out.size)
    obtain ⟨w2, hw2⟩ : ∃ w2, w2 = grow w1 r := ⟨_, rfl⟩
    have d2 := grow_below w1 r
    rw [← hw2] at d2 B2 ⊢
    clear hw2 hlE
    have hr2 := hr.below d2
    have bE2 := bE.below d2 bE.lt
    clear hr ho bE d2 B0 hb hp
    go_upto_region 3 with fail
    have c2 := growc (bE2.at_ (i := 2) (v := .int .i64 e.node) rfl)
    have c3 := growc (bE2.at_ (i := 3) (v := .int .i64 e.who) rfl)
    with_reducible refine wp_region_grow (by kernel_rfl) (by kernel_rfl) ?_
    repeat (go_big_quiet_step (first | (go_at_call 106; exact dwaitC _ _ hr2 _ _ hwv) | (go_at_call 107; exact dflyC _ _ hr2 _ _ hfv)))
    refine wpQuiet_nil ?_
    rintro w' ⟨r2, rfl⟩
    obtain ⟨w3, hw3⟩ : ∃ w3, w3 = grow w2 r2 := ⟨_, rfl⟩
    have d3 := grow_below w2 r2
    rw [← hw3] at d3 ⊢
    clear hw3 c2 c3
    have B3 := B2.trans (d3.mono B2.size)
    have hr3 := hr2.below d3
    have bE3 := bE2.below d3 bE2.lt
    clear hr2 bE2 d3 B2
    have c0 := bE3.at_ (i := 0) (v := .int .i64 e.kind) rfl
    rcases K16 with hk | hk | hk | hk | hk | hk | hk | hk | hk | hk | hk | hk | hk | hk | hk | hk
    · have q1 : (e.kind == 1) = true := by rw [hk]; rfl
      have c19 := bE3.at_ (i := 19) (v := .int .i64 e.met.len) rfl
      have c20 := bE3.at_ (i := 20) (v := .int .i64 e.met.have_) rfl
      have c53 := bE3.at_ (i := 53) (v := e.bytes.val) rfl
      by_cases hv : e.met.have_ = (e.bytes.l.length : Int)
      · have v1 : (e.met.have_ == (e.bytes.l.length : Int)) = true := by rw [hv]; exact beq_iff_eq.2 rfl
        have v2 : (e.abs.met.have_ == (e.abs.bytes.length : Int)) = true := v1
        by_cases hl : e.met.len = -1
        · have l1 : (e.met.len == -1) = true := by rw [hl]; rfl
          go_wp2_with fail
          go_ret
          refine ⟨?_, B3⟩
          rw [askB_1 (e := e.abs) hk]
          rw [v2, show (e.abs.met.len == -1) = true from l1]
          rfl
        · have l1 : (e.met.len == -1) = false := beq_eq_false_iff_ne.2 hl
          by_cases hw : e.met.len = (e.bytes.l.length : Int)
          · have u3 : (e.met.len == (e.bytes.l.length : Int)) = true := by rw [hw]; exact beq_iff_eq.2 rfl
            have u1 : (e.met.len == e.met.have_) = true := by rw [hw, hv]; exact beq_iff_eq.2 rfl
            have u2 : (e.abs.met.len == (e.abs.bytes.length : Int)) = true := by rw [show e.abs.met.len = e.met.len from rfl, hw]; exact beq_iff_eq.2 rfl
            go_wp2_with fail
            go_ret
            refine ⟨?_, B3⟩
            rw [askB_1 (e := e.abs) hk]
            rw [v2, show (e.abs.met.len == -1) = false from l1, u2]
            rfl
          · have u3 : (e.met.len == (e.bytes.l.length : Int)) = false := beq_eq_false_iff_ne.2 hw
            have u1 : (e.met.len == e.met.have_) = false := beq_eq_false_iff_ne.2 (by rw [hv]; exact hw)
            have u2 : (e.abs.met.len == (e.abs.bytes.length : Int)) = false := beq_eq_false_iff_ne.2 hw
            go_wp2_with fail
            go_ret
            refine ⟨?_, B3⟩
            rw [askB_1 (e := e.abs) hk]
            rw [v2, show (e.abs.met.len == -1) = false from l1, u2]
            rfl
      · have v1 : (e.met.have_ == (e.bytes.l.length : Int)) = false := beq_eq_false_iff_ne.2 hv
        have v2 : (e.abs.met.have_ == (e.abs.bytes.length : Int)) = false := v1
        go_wp2_with fail
        go_ret
        refine ⟨?_, B3⟩
        rw [askB_1 (e := e.abs) hk]
        rw [v2]
        rfl
    · have q1 : (e.kind == 1) = false := by rw [hk]; rfl
      have q2 : (e.kind == 2) = true := by rw [hk]; rfl
      have c4 := bE3.at_ (i := 4) (v := .string (bstr e.object)) rfl
      have VC := dver_calls w3 A c l hr3 e.object
      rw [show verF (absL l) e.object = vv from hvv] at VC
      have c53 := bE3.at_ (i := 53) (v := e.bytes.val) rfl
      by_cases hx : vv = 1
      · have dx : ((vv : Int) == 1) = true := by rw [hx]; rfl
        have c53b := fun (w4 : World) (d4 : Below w3.heap.size w3 w4) => (bE3.below d4 bE3.lt).at_ (i := 53) (v := e.bytes.val) rfl
        go_wp2_with (go_at_call 108; refine VC.mono ?_; rintro _ w4 ⟨rfl, d4⟩; clear VC; have c53 := (bE3.below d4 bE3.lt).at_ (i := 53) (v := e.bytes.val) rfl)
        go_ret
        refine ⟨?_, B3.trans (d4.mono B3.size)⟩
        rw [askB_2 (e := e.abs) hk]
        rw [hx]
        rfl
      · have dx : ((vv : Int) == 1) = false := by rw [show (1 : Int) = ((1 : Nat) : Int) from rfl, nbeq]; exact beq_eq_false_iff_ne.2 hx
        go_wp2_with (go_at_call 108; refine VC.mono ?_; rintro _ w4 ⟨rfl, d4⟩; clear VC)
        go_ret
        refine ⟨?_, B3.trans (d4.mono B3.size)⟩
        rw [askB_2 (e := e.abs) hk]
        rw [beq_eq_false_iff_ne.2 hx]
        rfl
    · have q1 : (e.kind == 1) = false := by rw [hk]; rfl
      have q2 : (e.kind == 2) = false := by rw [hk]; rfl
      have q3 : (e.kind == 3) = true := by rw [hk]; rfl
      have c4 := bE3.at_ (i := 4) (v := .string (bstr e.object)) rfl
      have VC := dver_calls w3 A c l hr3 e.object
      rw [show verF (absL l) e.object = vv from hvv] at VC
      go_wp2_with (go_at_call 108; refine VC.mono ?_; rintro _ w4 ⟨rfl, d4⟩; clear VC)
      go_ret
      refine ⟨?_, B3.trans (d4.mono B3.size)⟩
      rw [askB_3 (e := e.abs) hk]
      rw [← nbeq vv 1]
      rfl
    · have q1 : (e.kind == 1) = false := by rw [hk]; rfl
      have q2 : (e.kind == 2) = false := by rw [hk]; rfl
      have q3 : (e.kind == 3) = false := by rw [hk]; rfl
      have q4 : (e.kind == 4) = true := by rw [hk]; rfl
      have c4 := bE3.at_ (i := 4) (v := .string (bstr e.object)) rfl
      have VC := dver_calls w3 A c l hr3 e.object
      rw [show verF (absL l) e.object = vv from hvv] at VC
      go_wp2_with (go_at_call 108; refine VC.mono ?_; rintro _ w4 ⟨rfl, d4⟩; clear VC)
      go_ret
      refine ⟨?_, B3.trans (d4.mono B3.size)⟩
      rw [askB_4 (e := e.abs) hk]
      rw [← nlt 0 vv]
      rfl
    · have q1 : (e.kind == 1) = false := by rw [hk]; rfl
      have q2 : (e.kind == 2) = false := by rw [hk]; rfl
      have q3 : (e.kind == 3) = false := by rw [hk]; rfl
      have q4 : (e.kind == 4) = false := by rw [hk]; rfl
      have q5 : (e.kind == 5) = true := by rw [hk]; rfl
      have c54 := bE3.at_ (i := 54) (v := e.keys.val) rfl
      go_wp2_with fail
      go_ret
      refine ⟨?_, B3⟩
      rw [askB_5 (e := e.abs) hk]
      rfl
    · have q1 : (e.kind == 1) = false := by rw [hk]; rfl
      have q2 : (e.kind == 2) = false := by rw [hk]; rfl
      have q3 : (e.kind == 3) = false := by rw [hk]; rfl
      have q4 : (e.kind == 4) = false := by rw [hk]; rfl
      have q5 : (e.kind == 5) = false := by rw [hk]; rfl
      have q6 : (e.kind == 6) = true := by rw [hk]; rfl
      go_wp2_with fail
      go_ret
      refine ⟨?_, B3⟩
      rw [askB_6 (e := e.abs) hk]
      rw [← nbeq wv 0]
      rfl
    · have q1 : (e.kind == 1) = false := by rw [hk]; rfl
      have q2 : (e.kind == 2) = false := by rw [hk]; rfl
      have q3 : (e.kind == 3) = false := by rw [hk]; rfl
      have q4 : (e.kind == 4) = false := by rw [hk]; rfl
      have q5 : (e.kind == 5) = false := by rw [hk]; rfl
      have q6 : (e.kind == 6) = false := by rw [hk]; rfl
      have q7 : (e.kind == 7) = true := by rw [hk]; rfl
      go_wp2_with fail
      go_ret
      refine ⟨?_, B3⟩
      rw [askB_7 (e := e.abs) hk]
      rw [← nlt 0 wv]
      rfl
    · have q1 : (e.kind == 1) = false := by rw [hk]; rfl
      have q2 : (e.kind == 2) = false := by rw [hk]; rfl
      have q3 : (e.kind == 3) = false := by rw [hk]; rfl
      have q4 : (e.kind == 4) = false := by rw [hk]; rfl
      have q5 : (e.kind == 5) = false := by rw [hk]; rfl
      have q6 : (e.kind == 6) = false := by rw [hk]; rfl
      have q7 : (e.kind == 7) = false := by rw [hk]; rfl
      have q8 : (e.kind == 8) = true := by rw [hk]; rfl
      go_wp2_with fail
      go_ret
      refine ⟨?_, B3⟩
      rw [askB_8 (e := e.abs) hk]
      rw [← nbeq wv 1]
      rfl
    · have q1 : (e.kind == 1) = false := by rw [hk]; rfl
      have q2 : (e.kind == 2) = false := by rw [hk]; rfl
      have q3 : (e.kind == 3) = false := by rw [hk]; rfl
      have q4 : (e.kind == 4) = false := by rw [hk]; rfl
      have q5 : (e.kind == 5) = false := by rw [hk]; rfl
      have q6 : (e.kind == 6) = false := by rw [hk]; rfl
      have q7 : (e.kind == 7) = false := by rw [hk]; rfl
      have q8 : (e.kind == 8) = false := by rw [hk]; rfl
      have q9 : (e.kind == 9) = true := by rw [hk]; rfl
      have c53 := bE3.at_ (i := 53) (v := e.bytes.val) rfl
      by_cases hx : wv = 2
      · have dx : ((wv : Int) == 2) = true := by rw [hx]; rfl
        go_wp2_with fail
        go_ret
        refine ⟨?_, B3⟩
        rw [askB_9 (e := e.abs) hk]
        rfl
      · have dx : ((wv : Int) == 2) = false := by rw [show (2 : Int) = ((2 : Nat) : Int) from rfl, nbeq]; exact beq_eq_false_iff_ne.2 hx
        go_wp2_with fail
        go_ret
        refine ⟨?_, B3⟩
        rw [askB_9 (e := e.abs) hk]
        rw [beq_eq_false_iff_ne.2 hx]
        rfl
    · have q1 : (e.kind == 1) = false := by rw [hk]; rfl
      have q2 : (e.kind == 2) = false := by rw [hk]; rfl
      have q3 : (e.kind == 3) = false := by rw [hk]; rfl
      have q4 : (e.kind == 4) = false := by rw [hk]; rfl
      have q5 : (e.kind == 5) = false := by rw [hk]; rfl
      have q6 : (e.kind == 6) = false := by rw [hk]; rfl
      have q7 : (e.kind == 7) = false := by rw [hk]; rfl
      have q8 : (e.kind == 8) = false := by rw [hk]; rfl
      have q9 : (e.kind == 9) = false := by rw [hk]; rfl
      have q10 : (e.kind == 10) = true := by rw [hk]; rfl
      go_wp2_with fail
      go_ret
      refine ⟨?_, B3⟩
      rw [askB_10 (e := e.abs) hk]
      rw [← nbeq wv 2]
      rfl
    · have q1 : (e.kind == 1) = false := by rw [hk]; rfl
      have q2 : (e.kind == 2) = false := by rw [hk]; rfl
      have q3 : (e.kind == 3) = false := by rw [hk]; rfl
      have q4 : (e.kind == 4) = false := by rw [hk]; rfl
      have q5 : (e.kind == 5) = false := by rw [hk]; rfl
      have q6 : (e.kind == 6) = false := by rw [hk]; rfl
      have q7 : (e.kind == 7) = false := by rw [hk]; rfl
      have q8 : (e.kind == 8) = false := by rw [hk]; rfl
      have q9 : (e.kind == 9) = false := by rw [hk]; rfl
      have q10 : (e.kind == 10) = false := by rw [hk]; rfl
      have q11 : (e.kind == 11) = true := by rw [hk]; rfl
      go_upto_region 26 with fail
      clear c0 q1 q2 q3 q4 q5 q6 q7 q8 q9 q10 q11
      have c2 := growc (bE3.at_ (i := 2) (v := .int .i64 e.node) rfl)
      have c3 := growc (bE3.at_ (i := 3) (v := .int .i64 e.who) rfl)
      with_reducible refine wp_region_grow (by kernel_rfl) (by kernel_rfl) ?_
      repeat (go_big_quiet_step (first | (go_at_call 109; exact dgrtC _ _ hr3 _ hgv)))
      refine wpQuiet_nil ?_
      rintro w' ⟨r3, rfl⟩
      have B4 := B3.trans ((grow_below w3 r3).mono B3.size)
      go_wp2_with fail
      go_ret
      refine ⟨?_, B4⟩
      rw [askB_11 (e := e.abs) hk]
      rfl
    · have q1 : (e.kind == 1) = false := by rw [hk]; rfl
      have q2 : (e.kind == 2) = false := by rw [hk]; rfl
      have q3 : (e.kind == 3) = false := by rw [hk]; rfl
      have q4 : (e.kind == 4) = false := by rw [hk]; rfl
      have q5 : (e.kind == 5) = false := by rw [hk]; rfl
      have q6 : (e.kind == 6) = false := by rw [hk]; rfl
      have q7 : (e.kind == 7) = false := by rw [hk]; rfl
      have q8 : (e.kind == 8) = false := by rw [hk]; rfl
      have q9 : (e.kind == 9) = false := by rw [hk]; rfl
      have q10 : (e.kind == 10) = false := by rw [hk]; rfl
      have q11 : (e.kind == 11) = false := by rw [hk]; rfl
      have q12 : (e.kind == 12) = true := by rw [hk]; rfl
      go_wp2_with fail
      go_ret
      refine ⟨?_, B3⟩
      rw [askB_12 (e := e.abs) hk]
      rw [← nbeq fv 1]
      rfl
    · have q1 : (e.kind == 1) = false := by rw [hk]; rfl
      have q2 : (e.kind == 2) = false := by rw [hk]; rfl
      have q3 : (e.kind == 3) = false := by rw [hk]; rfl
      have q4 : (e.kind == 4) = false := by rw [hk]; rfl
      have q5 : (e.kind == 5) = false := by rw [hk]; rfl
      have q6 : (e.kind == 6) = false := by rw [hk]; rfl
      have q7 : (e.kind == 7) = false := by rw [hk]; rfl
      have q8 : (e.kind == 8) = false := by rw [hk]; rfl
      have q9 : (e.kind == 9) = false := by rw [hk]; rfl
      have q10 : (e.kind == 10) = false := by rw [hk]; rfl
      have q11 : (e.kind == 11) = false := by rw [hk]; rfl
      have q12 : (e.kind == 12) = false := by rw [hk]; rfl
      have q13 : (e.kind == 13) = true := by rw [hk]; rfl
      have c53 := bE3.at_ (i := 53) (v := e.bytes.val) rfl
      by_cases hx : fv = 2
      · have dx : ((fv : Int) == 2) = true := by rw [hx]; rfl
        go_wp2_with fail
        go_ret
        refine ⟨?_, B3⟩
        rw [askB_13 (e := e.abs) hk]
        rfl
      · have dx : ((fv : Int) == 2) = false := by rw [show (2 : Int) = ((2 : Nat) : Int) from rfl, nbeq]; exact beq_eq_false_iff_ne.2 hx
        go_wp2_with fail
        go_ret
        refine ⟨?_, B3⟩
        rw [askB_13 (e := e.abs) hk]
        rw [beq_eq_false_iff_ne.2 hx]
        rfl
    · have q1 : (e.kind == 1) = false := by rw [hk]; rfl
      have q2 : (e.kind == 2) = false := by rw [hk]; rfl
      have q3 : (e.kind == 3) = false := by rw [hk]; rfl
      have q4 : (e.kind == 4) = false := by rw [hk]; rfl
      have q5 : (e.kind == 5) = false := by rw [hk]; rfl
      have q6 : (e.kind == 6) = false := by rw [hk]; rfl
      have q7 : (e.kind == 7) = false := by rw [hk]; rfl
      have q8 : (e.kind == 8) = false := by rw [hk]; rfl
      have q9 : (e.kind == 9) = false := by rw [hk]; rfl
      have q10 : (e.kind == 10) = false := by rw [hk]; rfl
      have q11 : (e.kind == 11) = false := by rw [hk]; rfl
      have q12 : (e.kind == 12) = false := by rw [hk]; rfl
      have q13 : (e.kind == 13) = false := by rw [hk]; rfl
      have q14 : (e.kind == 14) = true := by rw [hk]; rfl
      go_wp2_with fail
      go_ret
      refine ⟨?_, B3⟩
      rw [askB_14 (e := e.abs) hk]
      rw [← nlt 0 fv]
      rfl
    · have q1 : (e.kind == 1) = false := by rw [hk]; rfl
      have q2 : (e.kind == 2) = false := by rw [hk]; rfl
      have q3 : (e.kind == 3) = false := by rw [hk]; rfl
      have q4 : (e.kind == 4) = false := by rw [hk]; rfl
      have q5 : (e.kind == 5) = false := by rw [hk]; rfl
      have q6 : (e.kind == 6) = false := by rw [hk]; rfl
      have q7 : (e.kind == 7) = false := by rw [hk]; rfl
      have q8 : (e.kind == 8) = false := by rw [hk]; rfl
      have q9 : (e.kind == 9) = false := by rw [hk]; rfl
      have q10 : (e.kind == 10) = false := by rw [hk]; rfl
      have q11 : (e.kind == 11) = false := by rw [hk]; rfl
      have q12 : (e.kind == 12) = false := by rw [hk]; rfl
      have q13 : (e.kind == 13) = false := by rw [hk]; rfl
      have q14 : (e.kind == 14) = false := by rw [hk]; rfl
      have q15 : (e.kind == 15) = true := by rw [hk]; rfl
      go_wp2_with fail
      go_ret
      refine ⟨?_, B3⟩
      rw [askB_15 (e := e.abs) hk]
      rw [← nlt 0 fv]
      rfl
    · have q1 : (e.kind == 1) = false := by rw [hk]; rfl
      have q2 : (e.kind == 2) = false := by rw [hk]; rfl
      have q3 : (e.kind == 3) = false := by rw [hk]; rfl
      have q4 : (e.kind == 4) = false := by rw [hk]; rfl
      have q5 : (e.kind == 5) = false := by rw [hk]; rfl
      have q6 : (e.kind == 6) = false := by rw [hk]; rfl
      have q7 : (e.kind == 7) = false := by rw [hk]; rfl
      have q8 : (e.kind == 8) = false := by rw [hk]; rfl
      have q9 : (e.kind == 9) = false := by rw [hk]; rfl
      have q10 : (e.kind == 10) = false := by rw [hk]; rfl
      have q11 : (e.kind == 11) = false := by rw [hk]; rfl
      have q12 : (e.kind == 12) = false := by rw [hk]; rfl
      have q13 : (e.kind == 13) = false := by rw [hk]; rfl
      have q14 : (e.kind == 14) = false := by rw [hk]; rfl
      have q15 : (e.kind == 15) = false := by rw [hk]; rfl
      go_wp2_with fail
      go_ret
      refine ⟨?_, B3⟩
      rw [askB_16 (e := e.abs) hk]
      rfl
theorem could_calls (w : World) (A : Option Addr) (c : Nat) (l : List EvtR) (hr0 : EvsOK w A l c) (e : EvtR) (ho0 : EvtOK w e) (hp : ShortE e.abs) (lm : l.length ≤ 100000) :
    Calls Tryz.prog 52 #[.slice A l.length c, .agg e.cells.toArray] w fun r w' => r = .returned (.bool (couldB (absL l) e.abs)) ∧ Below w.heap.size w w' := by
  cases hb : rightB e.abs with
  | false =>
    have : couldB (absL l) e.abs = false := by unfold couldB; rw [hb]; rfl
    rw [this]
    exact could_no w A c l hr0 e ho0 hp lm hb
  | true =>
    by_cases hn : 0 < l.length ∧ e.tick < tickOf (absL l)
    · have : couldB (absL l) e.abs = false := by
        unfold couldB
        rw [decide_eq_false (fun q => by have e1 := congrArg List.length q; rw [absL_len, List.length_nil] at e1; omega), decide_eq_false (show ¬ tickOf (absL l) ≤ e.abs.tick from by show ¬ tickOf (absL l) ≤ e.tick; omega)]
        simp
      rw [this]
      exact could_early w A c l hr0 e ho0 hp lm hb hn.1 hn.2
    · have : couldB (absL l) e.abs = askB e.abs (verF (absL l) e.abs.object) (waitF (absL l) e.abs.node e.abs.who) (flyF (absL l) e.abs.node e.abs.who) (grtF (absL l) e.abs.node) := by
        unfold couldB
        rw [hb]
        by_cases hl : absL l = []
        · rw [decide_eq_true hl]
          simp
        · have h0 : 0 < l.length := by
            rcases l with _ | ⟨a, l⟩
            · exact absurd rfl hl
            · simp
          rw [decide_eq_true (show tickOf (absL l) ≤ e.abs.tick from by show tickOf (absL l) ≤ e.tick; have : ¬ e.tick < tickOf (absL l) := fun q => hn ⟨h0, q⟩; omega)]
          simp
      rw [this]
      exact could_goes w A c l hr0 e ho0 hp lm hb (fun h0 q => hn ⟨h0, q⟩)
end Go.Proofs.YtiokbebodblhaaaGreatDoor
