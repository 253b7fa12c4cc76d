/-
  Walks: Right, the program's and the document's: the first event that can't have happened so. Printed by rightgen51.py.
-/
import Derived.Test.YtiokbebodblhaaaGreatDoorTraceCo
import Derived.Test.YtiokbebodblhaaaGreatDoorTraceMb
import Derived.Test.YtiokbebodblhaaaGreatDoorTraceBegin
import Derived.Deep.RegionHeldLaw
import Derived.OrdersHeld
import Derived.Deep.CutRange
namespace Go.Proofs.YtiokbebodblhaaaGreatDoor
open Go.RowKit Go.Maps Go.WideMaps TraceP
attribute [local go_sem] Row.val

theorem RV.pre {w : World} {A : Option Addr} {xs ys : List Value} (h : RV w A (xs ++ ys)) : RV w A xs := fun hne => by
  obtain ⟨b, off, e, h1, h2⟩ := h (by intro q; exact hne (List.append_eq_nil_iff.1 q).1)
  refine ⟨b, off, e, h1, fun j u hu => h2 j u ?_⟩
  rw [List.getElem?_append_left (by exact (List.getElem?_eq_some_iff.1 hu).1)]
  exact hu
theorem EvsOK.take {w : World} {A : Option Addr} {l : List EvtR} {c : Nat} (h : EvsOK w A l c) (k : Nat) : EvsOK w A (l.take k) c := by
  refine ⟨?_, Nat.le_trans (by rw [List.length_take]; omega) h.le, h.cap, fun e he => h.ok e (List.mem_of_mem_take he)⟩
  have := h.rv
  rw [← List.take_append_drop k l, fl_append] at this
  exact this.pre
theorem absL_takeN (l : List EvtR) (k : Nat) : absL (l.take k) = (absL l).take k := by unfold absL; rw [List.map_take]
theorem absL_drop {l : List EvtR} {k : Nat} (h : k < l.length) : (absL l).drop k = l[k].abs :: (absL l).drop (k + 1) := by
  unfold absL
  rw [List.drop_eq_getElem_cons (by rw [List.length_map]; exact h), List.getElem_map]
/-- The event's row lies in the block. -/
def RowAt (w : World) (g : Nat) (x : EvtR) : Prop := Blk w g 45 x.cells.toArray
theorem RowAt.load {w : World} {g : Nat} {x : EvtR} (h : RowAt w g x) : (Instr.loadAt 45 (.pointer (some ⟨g, 0, none⟩))).run Tryz.prog w = .ok (.agg x.cells.toArray) w :=
  run_loadAt_mid w g 0 45 x.cells _ (fun j v hv => by rw [Nat.zero_add, Blk.cell h]; simpa using hv) Tryz.underlying45 (by kernel_rfl) (by kernel_rfl)
theorem yields_row {ops : Array Oper} {S : World → Prop} {op : Oper} {a : Act} (hw : Region.wanted op (yielded ops a.tmps) = true) (x : Operand) (ho : op.op = .load 45 x) (g : Nat) (hx : a.eval x = .pointer (some ⟨g, 0, none⟩)) (e : EvtR) (hS : ∀ w, S w → RowAt w g e) :
    YieldsIf Tryz.prog ops S op (.agg e.cells.toArray) a :=
  .inl ⟨hw, fun w h => by
    unfold execOp
    simp only [ho, hx, (hS w h).load, Sem.run_bind, Sem.run_pure, Result.andThen_ok]⟩
theorem may_tick (s : PSt) (e : Evt) : (mayS s e).tick = s.tick := by
  unfold mayS
  simp only [apply_ite PSt.tick]
  simp
set_option maxRecDepth 100000 in
set_option maxHeartbeats 6400000 in
theorem pright_calls (w : World) (hS : Std w) (A : Option Addr) (c : Nat) (l : List EvtR) (hr : EvsOK w A l c) (hb : ∀ e ∈ l, e.object.length ≤ 9223372036854775807) (lm : l.length ≤ 100000) :
    Calls Tryz.prog 20 #[.slice A l.length c] w fun r w' => r = .returned (.int .i64 (rightL (absL l))) ∧ Below w.heap.size w w' := by
  have lmax : l.length ≤ 9223372036854775807 := Nat.le_trans hr.le hr.cap
  have hmm := @run_makeMap Tryz.prog
  have m1 := MapO.made w 9
  have m2 := MapO.made (w.alloc (.map #[] 0)) 121
  have m3 := MapO.made ((w.alloc (.map #[] 0)).alloc (.map #[] 0)) 121
  have m4 := MapO.made (((w.alloc (.map #[] 0)).alloc (.map #[] 0)).alloc (.map #[] 0)) 3
  have sz1 : (w.alloc (.map #[] 0)).heap.size = w.heap.size + 1 := by simp
  have sz2 : ((w.alloc (.map #[] 0)).alloc (.map #[] 0)).heap.size = w.heap.size + 1 + 1 := by simp
  have sz3 : (((w.alloc (.map #[] 0)).alloc (.map #[] 0)).alloc (.map #[] 0)).heap.size = w.heap.size + 1 + 1 + 1 := by simp
  have sz4 : ((((w.alloc (.map #[] 0)).alloc (.map #[] 0)).alloc (.map #[] 0)).alloc (.map #[] 0)).heap.size = w.heap.size + 1 + 1 + 1 + 1 := by simp
  rw [sz1] at m2
  rw [sz2] at m3
  rw [sz3] at m4
  have bS := Blk.new ((((w.alloc (.map #[] 0)).alloc (.map #[] 0)).alloc (.map #[] 0)).alloc (.map #[] 0)) 107 #[.int .i64 0, .map (some w.heap.size), .map (some (w.heap.size + 1)), .map (some (w.heap.size + 1 + 1)), .map (some (w.heap.size + 1 + 1 + 1))]
  rw [sz4] at bS
  have B0 : StOK w.heap.size (((((w.alloc (.map #[] 0)).alloc (.map #[] 0)).alloc (.map #[] 0)).alloc (.map #[] 0)).alloc (.cells #[.int .i64 0, .map (some w.heap.size), .map (some (w.heap.size + 1)), .map (some (w.heap.size + 1 + 1)), .map (some (w.heap.size + 1 + 1 + 1))] 107)) ⟨w.heap.size + 1 + 1 + 1 + 1, w.heap.size, w.heap.size + 1, w.heap.size + 1 + 1, w.heap.size + 1 + 1 + 1⟩ 0 PSt.new :=
    ⟨⟨by simp only; omega, Nat.le_refl _, by simp only; omega, by simp only; omega, by simp only; omega⟩, ⟨⟨by simp only; omega, by simp only; omega, by simp only; omega, by simp only; omega⟩, ⟨by simp only; omega, by simp only; omega, by simp only; omega⟩, ⟨by simp only; omega, by simp only; omega⟩, by simp only; omega⟩, bS,
      ⟨_, (((m1.alloc _).alloc _).alloc _).alloc _, fun _ => rfl⟩, ⟨_, ((m2.alloc _).alloc _).alloc _, fun _ _ => rfl⟩, ⟨_, (m3.alloc _).alloc _, fun _ _ => rfl⟩, ⟨_, m4.alloc _, fun _ => rfl⟩⟩
  have B2 : Below w.heap.size w (((((w.alloc (.map #[] 0)).alloc (.map #[] 0)).alloc (.map #[] 0)).alloc (.map #[] 0)).alloc (.cells #[.int .i64 0, .map (some w.heap.size), .map (some (w.heap.size + 1)), .map (some (w.heap.size + 1 + 1)), .map (some (w.heap.size + 1 + 1 + 1))] 107)) :=
    (((((Below.refl w.heap.size w).alloc (Nat.le_refl _) _).alloc (by simp) _).alloc (by simp; omega) _).alloc (by simp; omega) _).alloc (by simp; omega) _
  clear m1 m2 m3 m4 sz1 sz2 sz3 sz4 bS
  go_enter Tryz.func20, Tryz.ntmps20
  go_upto_region 2 with (fail)
  with_reducible refine code_abs (fun w' => StOK w.heap.size w' ⟨w.heap.size + 1 + 1 + 1 + 1, w.heap.size, w.heap.size + 1, w.heap.size + 1 + 1, w.heap.size + 1 + 1 + 1⟩ 0 PSt.new ∧ Below w.heap.size w w') ?_ ?_
  · exact ⟨B0, B2⟩
  clear B0 B2 hmm
  rintro w1 ⟨B0, B2⟩
  obtain ⟨B, hB⟩ : ∃ B : StB, B = ⟨w.heap.size + 1 + 1 + 1 + 1, w.heap.size, w.heap.size + 1, w.heap.size + 1 + 1, w.heap.size + 1 + 1 + 1⟩ := ⟨_, rfl⟩
  have hBg : w.heap.size + 1 + 1 + 1 + 1 = B.g := by rw [hB]
  rw [← hB] at B0
  simp only [hBg]
  clear hB hBg
  go_wp2_with fail
  go_loopw [14] (fun i wr => ∃ (k : Nat) (s : PSt), k ≤ l.length ∧ i = .int .i64 (k : Int) ∧ Hid (rightL (absL l) = rightP s k ((absL l).drop k)) ∧ StOK w.heap.size wr B (2 * k) s ∧ Below w.heap.size w wr) (fun i _ => l.length - (intOf i).toNat)
  case atStart => exact ⟨0, PSt.new, by omega, rfl, Lib.hid rfl, B0, B2⟩
  clear B0 B2 w1
  obtain ⟨k, s, hk, rfl, hR, hst, Bw⟩ := hrel
  by_cases hlt : k < l.length
  case neg =>
    obtain rfl : k = l.length := by omega
    have dec : decide ((l.length : Int) < (l.length : Int)) = false := decide_eq_false (by omega)
    have hR2 := hR.out
    rw [show (absL l).drop l.length = [] from List.drop_eq_nil_of_le (by rw [absL_len]; exact Nat.le_refl _)] at hR2
    replace hR2 := Lib.hid hR2
    go_wp2_with fail
    go_ret
    exact ⟨by rw [hR2.out]; rfl, Bw⟩
  have dec : decide ((k : Int) < (l.length : Int)) = true := decide_eq_true (by omega)
  have dec' : decide (k < l.length) = true := decide_eq_true hlt
  obtain ⟨b, off, rfl, hbs, hc⟩ := evt_at (hr.rv.below Bw) hlt
  have hd := absL_drop hlt
  have ox := (hr.ok _ (List.getElem_mem hlt)).below Bw
  have hxo : l[k].object.length ≤ 9223372036854775807 := hb _ (List.getElem_mem hlt)
  generalize l[k] = x at *
  have hR1 : rightL (absL l) = if goodB s x.abs then rightP (nextS s x.abs) (k + 1) ((absL l).drop (k + 1)) else (k : Int) := by
    rw [hR.out, hd, rightP]
  clear hd hR
  replace hR1 := Lib.hid hR1
  replace hxo := Lib.hid hxo
  go_upto_region 4 with fail
  with_reducible refine wp_region_lit ?_
  with_reducible refine wpList_cutAt 2 ?_
  simp only [List.take_succ_cons, List.take_zero, List.drop_succ_cons, List.drop_zero]
  go_wp2_with fail
  with_reducible refine CutQ.go_ ?_
  with_reducible refine wpList_load_mid rfl 45 (.tmp 17) rfl b (off + k * 57) (by kernel_rfl) x.cells _ hc Tryz.underlying45 (by kernel_rfl) (by kernel_rfl) ?_
  go_frame
  with_reducible refine wpList_cutAt 2 ?_
  simp only [List.take_succ_cons, List.take_zero, List.drop_succ_cons, List.drop_zero]
  repeat (first | go_values | go_skip | go_guarded | go_step | go_upon)
  with_reducible refine CutQ.go_ ?_
  with_reducible refine wpList_abs (fun w' => Blk w' wr.heap.size 45 zEvtR.cells.toArray ∧ Below wr.heap.size wr w') ?_ ?_
  · exact ⟨Blk.new wr 45 zEvtR.cells.toArray, below_new wr (.cells zEvtR.cells.toArray 45)⟩
  rintro wA0 ⟨bE0, dE0⟩
  have bE' : wA0.heap[wr.heap.size]? = some (Obj.cells zEvtR.cells.toArray 45) := bE0
  with_reducible refine wpList_store_row rfl 45 (.tmp 5) (.tmp 18) rfl wr.heap.size x.cells.toArray (by kernel_rfl) (by kernel_rfl) 45 zEvtR.cells.toArray bE' (by kernel_rfl) (by kernel_rfl) (by kernel_rfl) (wpList_nil ?_)
  have bE := bE0.setRow_ x.cells.toArray
  have dE := below_setRow dE0 (Nat.le_refl _) x.cells.toArray
  revert bE dE
  generalize wA0.setRow wr.heap.size x.cells.toArray = wA
  clear bE' bE0 dE0 wA0
  intro bE dE
  simp only [Act.put]
  go_upto_region 5 with fail
  have BA := Bw.trans (dE.mono Bw.size)
  have stA := hst.of_below dE
  have hEB := hst.apart (Nat.le_refl _)
  have oxA := ox.below dE
  obtain ⟨gE, hgE⟩ : ∃ g, g = wr.heap.size := ⟨_, rfl⟩
  rw [← hgE] at bE hEB ⊢
  clear hc hbs ox dE Bw hst hgE wr
  go_cut [36] from 19 to 36 (fun v wx => v = .bool (!goodB s x.abs) ∧ Below w.heap.size w wx ∧ (goodB s x.abs = true → StOK w.heap.size wx B (2 * k + 2) (mayS s x.abs) ∧ Blk wx gE 45 x.cells.toArray))
  case first =>
    have SA : ∀ wq : World, Blk wq B.g 107 (B.cells s.tick) → Blk wq gE 45 x.cells.toArray → (RowAt wq gE x ∧ wq.cell? ⟨gE, 1, none⟩ = some (.int .i64 x.tick) ∧ wq.cell? ⟨B.g, 0, none⟩ = some (.int .i64 s.tick)) := fun wq q1 q2 => ⟨q2, q2.at_ (i := 1) rfl, q1.at_ (i := 0) rfl⟩
    have s0 := SA wA stA.blk bE
    have s1 := SA wA.drew stA.blk.drew bE.drew
    have stD := stA.of_below ((Below.refl wA.heap.size wA).drew)
    have bED := bE.drew
    have oxD := oxA.below ((Below.refl wA.heap.size wA).drew)
    have BD := BA.drew
    have RC := right_calls wA.drew (hS.below BD) x oxD
    clear stA bE oxA BA
    cases hrb : rightB x.abs with
    | false =>
      have hg : goodB s x.abs = false := by unfold goodB; rw [hrb]; rfl
      rw [hrb] at RC
      replace hg := Lib.hid hg
      refine wp_region_held_drew (S := fun wq => RowAt wq gE x ∧ wq.cell? ⟨gE, 1, none⟩ = some (.int .i64 x.tick) ∧ wq.cell? ⟨B.g, 0, none⟩ = some (.int .i64 s.tick)) (by kernel_rfl) s1 (fun hHeld => ?_)
      refine wpAnyH_take (i := 0) (v := .agg x.cells.toArray) rfl (by kernel_rfl) (by kernel_rfl) (by kernel_rfl) (fun _ _ _ h => h) (yields_row (by kernel_rfl) (.tmp 5) rfl gE (by kernel_rfl) x (fun w hw => hw.1)) (by assumption) ?_
      try simp only [Act.put, List.setIfInBounds_toArray]
      refine wpAnyH_ready (rs := [1]) (by kernel_rfl) (by simp) ?_
      refine AllReadyH.cons rfl (fun K hK => ?_) AllReadyH.nil
      go_simp
      go_at_call 30
      with_reducible refine RC.mono ?_
      rintro _ wB ⟨rfl, d1⟩
      have stB := stD.of_below d1
      have bEB := bED.below d1 bED.lt
      have oxB := oxD.below d1
      have s2 := SA wB stB.blk bEB
      have BB := BD.trans (d1.mono BD.size)
      clear RC stD bED oxD BD d1
      try go_simp
      refine hK.out _ _ s2 (fun hHeld2 => ?_)
      clear hK K
      refine wpAnyH_take (i := 2) (v := ?v1) rfl (by kernel_rfl) (by kernel_rfl) (by kernel_rfl) (fun _ _ _ h => h) (Or.inl ⟨by kernel_rfl, ?hy1⟩) (by assumption) ?rest1
      case hy1 => (intro w hSw; (try dsimp only at hSw); go_simp; try with_reducible rfl)
      try simp only [Act.put, List.setIfInBounds_toArray]
      refine wpAnyH_take (i := 3) (v := ?v2) rfl (by kernel_rfl) (by kernel_rfl) (by kernel_rfl) (fun _ _ _ h => h) (Or.inl ⟨by kernel_rfl, ?hy2⟩) (by assumption) ?rest2
      case hy2 => (intro w hSw; (try dsimp only at hSw); go_simp; try with_reducible rfl)
      try simp only [Act.put]
      refine wpAnyH_take (i := 4) (v := undef) rfl (by kernel_rfl) (by kernel_rfl) (by kernel_rfl) (fun _ _ _ h => h) (Or.inr ⟨by kernel_rfl, rfl⟩) (by assumption) ?_
      try simp only [Act.put]
      refine wpAnyH_take (i := 5) (v := undef) rfl (by kernel_rfl) (by kernel_rfl) (by kernel_rfl) (fun _ _ _ h => h) (Or.inr ⟨by kernel_rfl, rfl⟩) (by assumption) ?_
      try simp only [Act.put]
      refine wpAnyH_take (i := 6) (v := undef) rfl (by kernel_rfl) (by kernel_rfl) (by kernel_rfl) (fun _ _ _ h => h) (Or.inr ⟨by kernel_rfl, rfl⟩) (by assumption) ?_
      try simp only [Act.put]
      refine wpAnyH_take (i := 7) (v := undef) rfl (by kernel_rfl) (by kernel_rfl) (by kernel_rfl) (fun _ _ _ h => h) (Or.inr ⟨by kernel_rfl, rfl⟩) (by assumption) ?_
      try simp only [Act.put]
      refine wpAnyH_take (i := 8) (v := undef) rfl (by kernel_rfl) (by kernel_rfl) (by kernel_rfl) (fun _ _ _ h => h) (Or.inr ⟨by kernel_rfl, rfl⟩) (by assumption) ?_
      try simp only [Act.put]
      refine wpAnyH_take (i := 9) (v := undef) rfl (by kernel_rfl) (by kernel_rfl) (by kernel_rfl) (fun _ _ _ h => h) (Or.inr ⟨by kernel_rfl, rfl⟩) (by assumption) ?_
      try simp only [Act.put]
      refine wpAnyH_take (i := 10) (v := undef) rfl (by kernel_rfl) (by kernel_rfl) (by kernel_rfl) (fun _ _ _ h => h) (Or.inr ⟨by kernel_rfl, rfl⟩) (by assumption) ?_
      try simp only [Act.put]
      refine wpAnyH_take (i := 11) (v := ?v3) rfl (by kernel_rfl) (by kernel_rfl) (by kernel_rfl) (fun _ _ _ h => h) (Or.inl ⟨by kernel_rfl, ?hy3⟩) (by assumption) ?rest3
      case hy3 => (intro w hSw; (try dsimp only at hSw); go_simp; try with_reducible rfl)
      try simp only [Act.put]
      refine wpAnyH_take (i := 12) (v := ?v4) rfl (by kernel_rfl) (by kernel_rfl) (by kernel_rfl) (fun _ _ _ h => h) (Or.inl ⟨by kernel_rfl, ?hy4⟩) (by assumption) ?rest4
      case hy4 => (intro w hSw; (try dsimp only at hSw); go_simp; try with_reducible rfl)
      try simp only [Act.put]
      refine wpAnyH_take (i := 13) (v := undef) rfl (by kernel_rfl) (by kernel_rfl) (by kernel_rfl) (fun _ _ _ h => h) (Or.inr ⟨by kernel_rfl, rfl⟩) (by assumption) ?_
      try simp only [Act.put]
      refine wpAnyH_take (i := 14) (v := undef) rfl (by kernel_rfl) (by kernel_rfl) (by kernel_rfl) (fun _ _ _ h => h) (Or.inr ⟨by kernel_rfl, rfl⟩) (by assumption) ?_
      try simp only [Act.put]
      refine wpAnyH_take (i := 15) (v := undef) rfl (by kernel_rfl) (by kernel_rfl) (by kernel_rfl) (fun _ _ _ h => h) (Or.inr ⟨by kernel_rfl, rfl⟩) (by assumption) ?_
      try simp only [Act.put]
      refine wpAnyH_take (i := 16) (v := undef) rfl (by kernel_rfl) (by kernel_rfl) (by kernel_rfl) (fun _ _ _ h => h) (Or.inr ⟨by kernel_rfl, rfl⟩) (by assumption) ?_
      try simp only [Act.put]
      refine wpAnyH_take (i := 17) (v := ?v5) rfl (by kernel_rfl) (by kernel_rfl) (by kernel_rfl) (fun _ _ _ h => h) (Or.inl ⟨by kernel_rfl, ?hy5⟩) (by assumption) ?rest5
      case hy5 => (intro w hSw; (try dsimp only at hSw); go_simp; try with_reducible rfl)
      try simp only [Act.put]
      refine wpAnyH_done (by kernel_rfl) ?_ _
      go_simp
      go_wp2_with fail
      go_meet
      exact ⟨by rw [hg.out]; rfl, BB, fun q => by rw [hg.out] at q; cases q⟩
    | true =>
      by_cases ht : x.tick < s.tick
      · have hg : goodB s x.abs = false := by unfold goodB; rw [hrb, decide_eq_true (show x.abs.tick < s.tick from ht)]; rfl
        have d9 : decide (x.tick < s.tick) = true := decide_eq_true ht
        rw [hrb] at RC
        replace hg := Lib.hid hg
        refine wp_region_held_drew (S := fun wq => RowAt wq gE x ∧ wq.cell? ⟨gE, 1, none⟩ = some (.int .i64 x.tick) ∧ wq.cell? ⟨B.g, 0, none⟩ = some (.int .i64 s.tick)) (by kernel_rfl) s1 (fun hHeld => ?_)
        refine wpAnyH_take (i := 0) (v := .agg x.cells.toArray) rfl (by kernel_rfl) (by kernel_rfl) (by kernel_rfl) (fun _ _ _ h => h) (yields_row (by kernel_rfl) (.tmp 5) rfl gE (by kernel_rfl) x (fun w hw => hw.1)) (by assumption) ?_
        try simp only [Act.put, List.setIfInBounds_toArray]
        refine wpAnyH_ready (rs := [1]) (by kernel_rfl) (by simp) ?_
        refine AllReadyH.cons rfl (fun K hK => ?_) AllReadyH.nil
        go_simp
        go_at_call 30
        with_reducible refine RC.mono ?_
        rintro _ wB ⟨rfl, d1⟩
        have stB := stD.of_below d1
        have bEB := bED.below d1 bED.lt
        have oxB := oxD.below d1
        have s2 := SA wB stB.blk bEB
        have BB := BD.trans (d1.mono BD.size)
        clear RC stD bED oxD BD d1
        try go_simp
        refine hK.out _ _ s2 (fun hHeld2 => ?_)
        clear hK K
        refine wpAnyH_take (i := 2) (v := ?v6) rfl (by kernel_rfl) (by kernel_rfl) (by kernel_rfl) (fun _ _ _ h => h) (Or.inl ⟨by kernel_rfl, ?hy6⟩) (by assumption) ?rest6
        case hy6 => (intro w hSw; (try dsimp only at hSw); go_simp; try with_reducible rfl)
        try simp only [Act.put, List.setIfInBounds_toArray]
        refine wpAnyH_take (i := 3) (v := ?v7) rfl (by kernel_rfl) (by kernel_rfl) (by kernel_rfl) (fun _ _ _ h => h) (Or.inl ⟨by kernel_rfl, ?hy7⟩) (by assumption) ?rest7
        case hy7 => (intro w hSw; (try dsimp only at hSw); go_simp; try with_reducible rfl)
        try simp only [Act.put]
        refine wpAnyH_take (i := 4) (v := ?v8) rfl (by kernel_rfl) (by kernel_rfl) (by kernel_rfl) (fun _ _ _ h => h) (Or.inl ⟨by kernel_rfl, ?hy8⟩) (by assumption) ?rest8
        case hy8 => (intro w hSw; (try dsimp only at hSw); go_simp; try with_reducible rfl)
        try simp only [Act.put]
        refine wpAnyH_take (i := 5) (v := ?v9) rfl (by kernel_rfl) (by kernel_rfl) (by kernel_rfl) (fun _ _ _ h => h) (Or.inl ⟨by kernel_rfl, ?hy9⟩) (by assumption) ?rest9
        case hy9 => (intro w hSw; (try dsimp only at hSw); go_simp; try with_reducible rfl)
        try simp only [Act.put]
        refine wpAnyH_take (i := 6) (v := ?v10) rfl (by kernel_rfl) (by kernel_rfl) (by kernel_rfl) (fun _ _ _ h => h) (Or.inl ⟨by kernel_rfl, ?hy10⟩) (by assumption) ?rest10
        case hy10 => (intro w hSw; (try dsimp only at hSw); go_simp; try with_reducible rfl)
        try simp only [Act.put]
        refine wpAnyH_take (i := 7) (v := ?v11) rfl (by kernel_rfl) (by kernel_rfl) (by kernel_rfl) (fun _ _ _ h => h) (Or.inl ⟨by kernel_rfl, ?hy11⟩) (by assumption) ?rest11
        case hy11 => (intro w hSw; (try dsimp only at hSw); go_simp; try with_reducible rfl)
        try simp only [Act.put]
        refine wpAnyH_take (i := 8) (v := ?v12) rfl (by kernel_rfl) (by kernel_rfl) (by kernel_rfl) (fun _ _ _ h => h) (Or.inl ⟨by kernel_rfl, ?hy12⟩) (by assumption) ?rest12
        case hy12 => (intro w hSw; (try dsimp only at hSw); go_simp; try with_reducible rfl)
        try simp only [Act.put]
        refine wpAnyH_take (i := 9) (v := ?v13) rfl (by kernel_rfl) (by kernel_rfl) (by kernel_rfl) (fun _ _ _ h => h) (Or.inl ⟨by kernel_rfl, ?hy13⟩) (by assumption) ?rest13
        case hy13 => (intro w hSw; (try dsimp only at hSw); go_simp; try with_reducible rfl)
        try simp only [Act.put]
        refine wpAnyH_take (i := 10) (v := ?v14) rfl (by kernel_rfl) (by kernel_rfl) (by kernel_rfl) (fun _ _ _ h => h) (Or.inl ⟨by kernel_rfl, ?hy14⟩) (by assumption) ?rest14
        case hy14 => (intro w hSw; (try dsimp only at hSw); go_simp; try with_reducible rfl)
        try simp only [Act.put]
        refine wpAnyH_take (i := 11) (v := ?v15) rfl (by kernel_rfl) (by kernel_rfl) (by kernel_rfl) (fun _ _ _ h => h) (Or.inl ⟨by kernel_rfl, ?hy15⟩) (by assumption) ?rest15
        case hy15 => (intro w hSw; (try dsimp only at hSw); go_simp; try with_reducible rfl)
        try simp only [Act.put]
        refine wpAnyH_take (i := 12) (v := ?v16) rfl (by kernel_rfl) (by kernel_rfl) (by kernel_rfl) (fun _ _ _ h => h) (Or.inl ⟨by kernel_rfl, ?hy16⟩) (by assumption) ?rest16
        case hy16 => (intro w hSw; (try dsimp only at hSw); go_simp; try with_reducible rfl)
        try simp only [Act.put]
        refine wpAnyH_take (i := 13) (v := undef) rfl (by kernel_rfl) (by kernel_rfl) (by kernel_rfl) (fun _ _ _ h => h) (Or.inr ⟨by kernel_rfl, rfl⟩) (by assumption) ?_
        try simp only [Act.put]
        refine wpAnyH_take (i := 14) (v := undef) rfl (by kernel_rfl) (by kernel_rfl) (by kernel_rfl) (fun _ _ _ h => h) (Or.inr ⟨by kernel_rfl, rfl⟩) (by assumption) ?_
        try simp only [Act.put]
        refine wpAnyH_take (i := 15) (v := undef) rfl (by kernel_rfl) (by kernel_rfl) (by kernel_rfl) (fun _ _ _ h => h) (Or.inr ⟨by kernel_rfl, rfl⟩) (by assumption) ?_
        try simp only [Act.put]
        refine wpAnyH_take (i := 16) (v := undef) rfl (by kernel_rfl) (by kernel_rfl) (by kernel_rfl) (fun _ _ _ h => h) (Or.inr ⟨by kernel_rfl, rfl⟩) (by assumption) ?_
        try simp only [Act.put]
        refine wpAnyH_take (i := 17) (v := ?v17) rfl (by kernel_rfl) (by kernel_rfl) (by kernel_rfl) (fun _ _ _ h => h) (Or.inl ⟨by kernel_rfl, ?hy17⟩) (by assumption) ?rest17
        case hy17 => (intro w hSw; (try dsimp only at hSw); go_simp; try with_reducible rfl)
        try simp only [Act.put]
        refine wpAnyH_done (by kernel_rfl) ?_ _
        go_simp
        go_wp2_with fail
        go_meet
        exact ⟨by rw [hg.out]; rfl, BB, fun q => by rw [hg.out] at q; cases q⟩
      · have hx16 := ((rightB_iff _).1 hrb).1.1
        have hg : goodB s x.abs = mayB s x.abs := by unfold goodB; rw [hrb, decide_eq_false (show ¬ x.abs.tick < s.tick from ht)]; rfl
        have d9 : decide (x.tick < s.tick) = false := decide_eq_false ht
        rw [hrb] at RC
        replace hxo := hxo.out
        generalize hmb : mayB s x.abs = mb at *
        replace hg := Lib.hid hg
        refine wp_region_held_drew (S := fun wq => RowAt wq gE x ∧ wq.cell? ⟨gE, 1, none⟩ = some (.int .i64 x.tick) ∧ wq.cell? ⟨B.g, 0, none⟩ = some (.int .i64 s.tick)) (by kernel_rfl) s1 (fun hHeld => ?_)
        refine wpAnyH_take (i := 0) (v := .agg x.cells.toArray) rfl (by kernel_rfl) (by kernel_rfl) (by kernel_rfl) (fun _ _ _ h => h) (yields_row (by kernel_rfl) (.tmp 5) rfl gE (by kernel_rfl) x (fun w hw => hw.1)) (by assumption) ?_
        try simp only [Act.put, List.setIfInBounds_toArray]
        refine wpAnyH_ready (rs := [1]) (by kernel_rfl) (by simp) ?_
        refine AllReadyH.cons rfl (fun K hK => ?_) AllReadyH.nil
        go_simp
        go_at_call 30
        with_reducible refine RC.mono ?_
        rintro _ wB ⟨rfl, d1⟩
        have stB := stD.of_below d1
        have bEB := bED.below d1 bED.lt
        have oxB := oxD.below d1
        have s2 := SA wB stB.blk bEB
        have BB := BD.trans (d1.mono BD.size)
        clear RC stD bED oxD BD d1
        try go_simp
        refine hK.out _ _ s2 (fun hHeld2 => ?_)
        clear hK K
        refine wpAnyH_take (i := 2) (v := ?v18) rfl (by kernel_rfl) (by kernel_rfl) (by kernel_rfl) (fun _ _ _ h => h) (Or.inl ⟨by kernel_rfl, ?hy18⟩) (by assumption) ?rest18
        case hy18 => (intro w hSw; (try dsimp only at hSw); go_simp; try with_reducible rfl)
        try simp only [Act.put, List.setIfInBounds_toArray]
        refine wpAnyH_take (i := 3) (v := ?v19) rfl (by kernel_rfl) (by kernel_rfl) (by kernel_rfl) (fun _ _ _ h => h) (Or.inl ⟨by kernel_rfl, ?hy19⟩) (by assumption) ?rest19
        case hy19 => (intro w hSw; (try dsimp only at hSw); go_simp; try with_reducible rfl)
        try simp only [Act.put]
        refine wpAnyH_take (i := 4) (v := ?v20) rfl (by kernel_rfl) (by kernel_rfl) (by kernel_rfl) (fun _ _ _ h => h) (Or.inl ⟨by kernel_rfl, ?hy20⟩) (by assumption) ?rest20
        case hy20 => (intro w hSw; (try dsimp only at hSw); go_simp; try with_reducible rfl)
        try simp only [Act.put]
        refine wpAnyH_take (i := 5) (v := ?v21) rfl (by kernel_rfl) (by kernel_rfl) (by kernel_rfl) (fun _ _ _ h => h) (Or.inl ⟨by kernel_rfl, ?hy21⟩) (by assumption) ?rest21
        case hy21 => (intro w hSw; (try dsimp only at hSw); go_simp; try with_reducible rfl)
        try simp only [Act.put]
        refine wpAnyH_take (i := 6) (v := ?v22) rfl (by kernel_rfl) (by kernel_rfl) (by kernel_rfl) (fun _ _ _ h => h) (Or.inl ⟨by kernel_rfl, ?hy22⟩) (by assumption) ?rest22
        case hy22 => (intro w hSw; (try dsimp only at hSw); go_simp; try with_reducible rfl)
        try simp only [Act.put]
        refine wpAnyH_take (i := 7) (v := ?v23) rfl (by kernel_rfl) (by kernel_rfl) (by kernel_rfl) (fun _ _ _ h => h) (Or.inl ⟨by kernel_rfl, ?hy23⟩) (by assumption) ?rest23
        case hy23 => (intro w hSw; (try dsimp only at hSw); go_simp; try with_reducible rfl)
        try simp only [Act.put]
        refine wpAnyH_take (i := 8) (v := ?v24) rfl (by kernel_rfl) (by kernel_rfl) (by kernel_rfl) (fun _ _ _ h => h) (Or.inl ⟨by kernel_rfl, ?hy24⟩) (by assumption) ?rest24
        case hy24 => (intro w hSw; (try dsimp only at hSw); go_simp; try with_reducible rfl)
        try simp only [Act.put]
        refine wpAnyH_take (i := 9) (v := ?v25) rfl (by kernel_rfl) (by kernel_rfl) (by kernel_rfl) (fun _ _ _ h => h) (Or.inl ⟨by kernel_rfl, ?hy25⟩) (by assumption) ?rest25
        case hy25 => (intro w hSw; (try dsimp only at hSw); go_simp; try with_reducible rfl)
        try simp only [Act.put]
        refine wpAnyH_take (i := 10) (v := ?v26) rfl (by kernel_rfl) (by kernel_rfl) (by kernel_rfl) (fun _ _ _ h => h) (Or.inl ⟨by kernel_rfl, ?hy26⟩) (by assumption) ?rest26
        case hy26 => (intro w hSw; (try dsimp only at hSw); go_simp; try with_reducible rfl)
        try simp only [Act.put]
        refine wpAnyH_take (i := 11) (v := ?v27) rfl (by kernel_rfl) (by kernel_rfl) (by kernel_rfl) (fun _ _ _ h => h) (Or.inl ⟨by kernel_rfl, ?hy27⟩) (by assumption) ?rest27
        case hy27 => (intro w hSw; (try dsimp only at hSw); go_simp; try with_reducible rfl)
        try simp only [Act.put]
        refine wpAnyH_take (i := 12) (v := ?v28) rfl (by kernel_rfl) (by kernel_rfl) (by kernel_rfl) (fun _ _ _ h => h) (Or.inl ⟨by kernel_rfl, ?hy28⟩) (by assumption) ?rest28
        case hy28 => (intro w hSw; (try dsimp only at hSw); go_simp; try with_reducible rfl)
        try simp only [Act.put]
        refine wpAnyH_take (i := 13) (v := ?v29) rfl (by kernel_rfl) (by kernel_rfl) (by kernel_rfl) (fun _ _ _ h => h) (Or.inl ⟨by kernel_rfl, ?hy29⟩) (by assumption) ?rest29
        case hy29 => (intro w hSw; (try dsimp only at hSw); go_simp; try with_reducible rfl)
        try simp only [Act.put]
        refine wpAnyH_take (i := 14) (v := .agg x.cells.toArray) rfl (by kernel_rfl) (by kernel_rfl) (by kernel_rfl) (fun _ _ _ h => h) (yields_row (by kernel_rfl) (.tmp 5) rfl gE (by kernel_rfl) x (fun w hw => hw.1)) (by assumption) ?_
        try simp only [Act.put]
        refine wpAnyH_ready (rs := [15]) (by kernel_rfl) (by simp) ?_
        refine AllReadyH.cons rfl (fun K hK => ?_) AllReadyH.nil
        go_simp
        go_at_call 51
        have MC := may_calls wB w.heap.size (2 * k) B s x stB oxB hx16 hxo BB.size (by omega)
        with_reducible refine MC.mono ?_
        rintro _ wC ⟨hrr, M⟩
        rw [hmb] at hrr
        subst hrr
        clear MC
        have stC := M.ok
        have bEC : Blk wC gE 45 x.cells.toArray := (M.kp.block gE bEB.lt hEB.out).trans bEB
        have s3 := SA wC (by have q := stC.blk; rw [may_tick] at q; exact q) bEC
        have BC := BB.trans (M.kp.below (fun j _ hj => stB.low hj) BB.size)
        clear M stB bEB
        try go_simp
        refine hK.out _ _ s3 (fun hHeld2 => ?_)
        clear hK K
        refine wpAnyH_take (i := 16) (v := ?v30) rfl (by kernel_rfl) (by kernel_rfl) (by kernel_rfl) (fun _ _ _ h => h) (Or.inl ⟨by kernel_rfl, ?hy30⟩) (by assumption) ?rest30
        case hy30 => (intro w hSw; (try dsimp only at hSw); go_simp; try with_reducible rfl)
        try simp only [Act.put, List.setIfInBounds_toArray]
        refine wpAnyH_take (i := 17) (v := ?v31) rfl (by kernel_rfl) (by kernel_rfl) (by kernel_rfl) (fun _ _ _ h => h) (Or.inl ⟨by kernel_rfl, ?hy31⟩) (by assumption) ?rest31
        case hy31 => (intro w hSw; (try dsimp only at hSw); go_simp; try with_reducible rfl)
        try simp only [Act.put]
        refine wpAnyH_done (by kernel_rfl) ?_ _
        go_simp
        go_wp2_with fail
        go_meet
        exact ⟨by rw [hg.out], BC, fun _ => ⟨stC, bEC⟩⟩
  case rest =>
    obtain ⟨rfl, Bx, hx⟩ := hcut
    clear stA bE oxA BA wA
    cases hg : goodB s x.abs with
    | false =>
      have hR2 := hR1.out
      rw [hg, if_neg (by simp)] at hR2
      replace hR2 := Lib.hid hR2
      go_wp2_with fail
      go_ret
      exact ⟨by rw [hR2.out]; rfl, Bx⟩
    | true =>
      obtain ⟨stX, bX⟩ := hx hg
      have hR2 := hR1.out
      rw [hg, if_pos rfl] at hR2
      replace hR2 := Lib.hid hR2
      have ct := bX.at_ (i := 1) (v := .int .i64 x.tick) rfl
      have cs := stX.blk.at_ (i := 0) (v := .int .i64 (mayS s x.abs).tick) rfl
      have fs := stX.blk.frozen 0
      have stN := stX.tick_ x.tick
      have BN := Bx.setCell (p := ⟨B.g, 0, none⟩) stX.lo.1 (.int .i64 x.tick)
      clear hx bX stX
      go_wp2_with fail
      go_roundw
      case rel => exact ⟨k + 1, nextS s x.abs, by omega, by go_num, hR2, stN, BN⟩
      case measure => simp [intOf]; omega
end Go.Proofs.YtiokbebodblhaaaGreatDoor
