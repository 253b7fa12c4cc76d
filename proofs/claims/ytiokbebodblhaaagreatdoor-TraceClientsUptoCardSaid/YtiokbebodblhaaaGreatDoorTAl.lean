/-
  Walks: may at a client's first ask; Right of it alone.
-/
import Derived.Test.YtiokbebodblhaaaGreatDoorTSm
import Derived.Deep.RegionLaw
import Derived.Great.BuildSlice
namespace Go.Proofs.YtiokbebodblhaaaGreatDoor
open Go.RowKit TraceP Go.Maps

theorem may_ask (w : World) (x : EvtR) (hk : x.kind = 6) (hn : x.node = 0) (hw : x.who = 3) (sb mw : Nat) (v0 v1 v3 v4 : Value) (bs : Blk w sb 107 #[v0, v1, .map (some mw), v3, v4]) (hm : OMap w mw 0 (.map [])) :
    Calls Tryz.prog 51 #[.pointer (some ⟨sb, 0, none⟩), .agg x.cells.toArray] w fun e w' => e = .returned (.bool true) ∧ Kept (fun k => k = mw) w w' := by
  have bE := Blk.new w 45 x.cells.toArray
  have B0 := below_new w (.cells x.cells.toArray 45)
  have hm0 := hm.alloc (.cells x.cells.toArray 45)
  have bs0 := bs.alloc (.cells x.cells.toArray 45)
  go_enter Tryz.func51, Tryz.ntmps51
  go_upto_region 1 with (fail)
  with_reducible refine code_abs (fun w' => Blk w' w.heap.size 45 x.cells.toArray ∧ Below w.heap.size w w' ∧ OMap w' mw 0 (.map []) ∧ Blk w' sb 107 #[v0, v1, .map (some mw), v3, v4]) ?_ ?_
  · exact ⟨bE, B0, hm0, bs0⟩
  clear bE B0 hm0 bs0
  rintro w1 ⟨bE, B1, hm1, bs1⟩
  have e0 := bE.at_ (i := 0) (v := .int .i64 6) (by rw [← hk]; rfl)
  go_upto_region 31 with (fail)
  have C := answers_ask w1 x hk hn hw sb mw v0 v1 v3 v4 bs1 hm1
  have bE' : w1.heap[w.heap.size]? = some (Obj.cells x.cells.toArray 45) := bE
  with_reducible refine wp_region_lit ?_
  with_reducible refine wpList_cutAt 1 ?_
  simp only [List.take_succ_cons, List.take_zero, List.drop_succ_cons, List.drop_zero]
  repeat (first | go_values | go_skip | go_guarded | go_step | go_upon)
  with_reducible refine CutQ.go_ ?_
  with_reducible refine wpList_load_row rfl 45 (.tmp 3) rfl w.heap.size (by kernel_rfl) 45 x.cells.toArray (0, 0) _ bE' Tryz.underlying45 (by kernel_rfl) (by kernel_rfl) ?_
  go_frame
  go_wp2_with (go_at_call 105; refine C.mono ?_; rintro _ w2 ⟨rfl, K2⟩)
  go_ret
  exact ⟨rfl, (Kept.of_below B1 _).trans K2⟩
end Go.Proofs.YtiokbebodblhaaaGreatDoor
namespace Go.Proofs.YtiokbebodblhaaaGreatDoor
open Go.RowKit TraceP Go.Maps

theorem Blk.keptP {w w' : World} {b : Nat} {F : Nat → Prop} {T : TypeId} {cs : Array Value} (h : Blk w b T cs) (K : Kept F w w') (hb : ¬ F b) : Blk w' b T cs := (K.block b h.lt hb).trans h
set_option maxRecDepth 100000 in
set_option maxHeartbeats 3200000 in
theorem right_one (w : World) (hS : Std w) (x : EvtR) (A : Option Addr) (c : Nat) (hr : EvsOK w A [x] c) (hR : rightB x.abs = true) (hk : x.kind = 6) (hn : x.node = 0) (hw : x.who = 3) (ht : x.tick = 7) :
    Calls Tryz.prog 20 #[.slice A 1 c] w fun e w' => e = .returned (.int .i64 (-1)) ∧ Below w.heap.size w w' := by
  have hmm := @run_makeMap Tryz.prog
  have m1 := World.ownsMap_made (H := Unit) (w.alloc (.map #[] 0)) Tryz.prog 121 (plainElem Tryz.prog 3)
  have sz1 : (w.alloc (.map #[] 0)).heap.size = w.heap.size + 1 := by simp
  rw [sz1] at m1
  have sz4 : ((((w.alloc (.map #[] 0)).alloc (.map #[] 0)).alloc (.map #[] 0)).alloc (.map #[] 0)).heap.size = w.heap.size + 1 + 1 + 1 + 1 := by simp
  have bS := Blk.new ((((w.alloc (.map #[] 0)).alloc (.map #[] 0)).alloc (.map #[] 0)).alloc (.map #[] 0)) 107 #[.int .i64 0, .map (some w.heap.size), .map (some (w.heap.size + 1)), .map (some (w.heap.size + 1 + 1)), .map (some (w.heap.size + 1 + 1 + 1))]
  rw [sz4] at bS
  have m2 : OMap (((((w.alloc (.map #[] 0)).alloc (.map #[] 0)).alloc (.map #[] 0)).alloc (.map #[] 0)).alloc (.cells #[.int .i64 0, .map (some w.heap.size), .map (some (w.heap.size + 1)), .map (some (w.heap.size + 1 + 1)), .map (some (w.heap.size + 1 + 1 + 1))] 107)) (w.heap.size + 1) 0 (.map []) := ((m1.alloc _).alloc _).alloc _
  have B2 : Below w.heap.size w (((((w.alloc (.map #[] 0)).alloc (.map #[] 0)).alloc (.map #[] 0)).alloc (.map #[] 0)).alloc (.cells #[.int .i64 0, .map (some w.heap.size), .map (some (w.heap.size + 1)), .map (some (w.heap.size + 1 + 1)), .map (some (w.heap.size + 1 + 1 + 1))] 107)) :=
    (((((Below.refl w.heap.size w).alloc (Nat.le_refl _) _).alloc (by simp) _).alloc (by simp; omega) _).alloc (by simp; omega) _).alloc (by simp; omega) _
  clear m1 sz1 sz4
  go_enter Tryz.func20, Tryz.ntmps20
  go_upto_region 2 with (fail)
  with_reducible refine code_abs (fun w' => Blk w' (w.heap.size + 1 + 1 + 1 + 1) 107 #[.int .i64 0, .map (some w.heap.size), .map (some (w.heap.size + 1)), .map (some (w.heap.size + 1 + 1)), .map (some (w.heap.size + 1 + 1 + 1))] ∧ OMap w' (w.heap.size + 1) 0 (.map []) ∧ Below w.heap.size w w') ?_ ?_
  · exact ⟨bS, m2, B2⟩
  clear bS m2 B2 hmm
  rintro w1 ⟨bS, m1, B1⟩
  go_wp2_with fail
  go_loopw [14] (fun i wr => (i = .int .i64 0 ∧ wr = w1) ∨ (i = .int .i64 1 ∧ Below w.heap.size w wr)) (fun i _ => 1 - (intOf i).toNat)
  case atStart => exact .inl ⟨rfl, rfl⟩
  case round =>
    rcases hrel with ⟨rfl, rfl⟩ | ⟨rfl, BL⟩
    · obtain ⟨b, off, rfl, hbs, hc⟩ := evt_at (l := [x]) (hr.rv.below B1) (k := 0) (by simp)
      rw [Nat.zero_mul, Nat.add_zero] at hc
      replace hc : World.rangeAt wr b off x.cells := hc
      go_upto_region 4 with fail
      with_reducible refine wp_region_lit ?_
      with_reducible refine wpList_cutAt 2 ?_
      simp only [List.take_succ_cons, List.take_zero, List.drop_succ_cons, List.drop_zero]
      go_wp2_with fail
      with_reducible refine CutQ.go_ ?_
      with_reducible refine wpList_load_mid rfl 45 (.tmp 17) rfl b off (by kernel_rfl) x.cells _ hc Tryz.underlying45 (by kernel_rfl) (by kernel_rfl) ?_
      go_frame
      with_reducible refine wpList_cutAt 2 ?_
      simp only [List.take_succ_cons, List.take_zero, List.drop_succ_cons, List.drop_zero]
      repeat (first | go_values | go_skip | go_guarded | go_step | go_upon)
      with_reducible refine CutQ.go_ ?_
      with_reducible refine wpList_abs (fun w' => Blk w' wr.heap.size 45 zEvtR.cells.toArray ∧ Below wr.heap.size wr w') ?_ ?_
      · exact ⟨Blk.new wr 45 zEvtR.cells.toArray, below_new wr (.cells zEvtR.cells.toArray 45)⟩
      rintro wA0 ⟨bE0, dE0⟩
      have bE' : wA0.heap[wr.heap.size]? = some (Obj.cells zEvtR.cells.toArray 45) := bE0
      with_reducible refine wpList_store_row rfl 45 (.tmp 5) (.tmp 18) rfl wr.heap.size x.cells.toArray (by kernel_rfl) (by kernel_rfl) 45 zEvtR.cells.toArray bE' (by kernel_rfl) (by kernel_rfl) (by kernel_rfl) (wpList_nil ?_)
      have bE := bE0.setRow_ x.cells.toArray
      have dE := below_setRow dE0 (Nat.le_refl _) x.cells.toArray
      revert bE dE
      generalize wA0.setRow wr.heap.size x.cells.toArray = wA
      clear bE' bE0 dE0 wA0
      intro bE dE
      simp only [Act.put]
      go_upto_region 5 with fail
      have bS1 := bS.below dE bS.lt
      have hml := m1.lt
      have m2 : OMap wA (w.heap.size + 1) 0 (.map []) := m1.kept ⟨dE.os, dE.tape, dE.output, dE.size, fun k hk _ => dE.block k hk⟩ (row := none) (by simp)
      have BA := B1.trans (dE.mono B1.size)
      have ox := ((hr.ok x (by simp)).below B1).below dE
      clear m1 bS hc hbs
      have bEd : wA.drew.heap[wr.heap.size]? = some (.cells x.cells.toArray 45 (0, 0)) := bE
      have bSd := bS1.drew
      have m2d := m2.drew
      have BAd := BA.drew
      have C := right_calls wA.drew (hS.below BAd) x (ox.below ((Below.refl wA.heap.size wA).drew))
      rw [hR] at C
      refine wp_region_any (by kernel_rfl) ?_
      change wpAny _ _ _ _ _ _ _ (World.drew _)
      refine wpAny_ready (rs := [0]) (by kernel_rfl) (by simp) ?_
      refine AllReady.cons rfl (fun K hK => ?_) AllReady.nil
      rw [if_pos (by rfl)]
      refine wp_load_row 45 (.tmp 5) rfl wr.heap.size (by kernel_rfl) 45 x.cells.toArray (0, 0) _ bEd Tryz.underlying45 (by kernel_rfl) (by kernel_rfl) ?_
      refine hK _ _ ?_
      clear hK K
      refine wpAny_ready (rs := [1]) (by kernel_rfl) (by simp) ?_
      refine AllReady.cons rfl (fun K hK => ?_) AllReady.nil
      go_simp
      go_at_call 30
      with_reducible refine C.mono ?_
      rintro _ wB ⟨rfl, d1⟩
      try go_simp
      refine hK _ _ ?_
      clear hK K
      have bSB := bSd.below d1 bSd.lt
      have bEB0 : Blk wB wr.heap.size 45 x.cells.toArray := bE.drew.below d1 bE.drew.lt
      have bEB : wB.heap[wr.heap.size]? = some (.cells x.cells.toArray 45 (0, 0)) := bEB0
      have m3 : OMap wB (w.heap.size + 1) 0 (.map []) := m2d.kept ⟨d1.os, d1.tape, d1.output, d1.size, fun k hk _ => d1.block k hk⟩ (row := none) (by simp)
      have BB := BAd.trans (d1.mono BAd.size)
      have M := may_ask wB x hk hn hw _ _ _ _ _ _ bSB m3
      have y0 := bSB.at_ (i := 0) (v := .int .i64 0) rfl
      have y1 := bEB0.at_ (i := 1) (v := .int .i64 7) (by rw [← ht]; rfl)
      clear C d1 bSd m2d bEd bE bS1 m2 BA BAd
      refine wpAny_take (i := 2) (v := ?v1) rfl (by kernel_rfl) (by kernel_rfl) (by kernel_rfl) (fun _ _ _ h => h) (Or.inl ⟨by rfl, ?hy1⟩) ?rest1
      case hy1 => (intro w; go_simp; try with_reducible rfl)
      refine wpAny_take (i := 3) (v := ?v2) rfl (by kernel_rfl) (by kernel_rfl) (by kernel_rfl) (fun _ _ _ h => h) (Or.inl ⟨by rfl, ?hy2⟩) ?rest2
      case hy2 => (intro w; go_simp; try with_reducible rfl)
      refine wpAny_take (i := 4) (v := ?v3) rfl (by kernel_rfl) (by kernel_rfl) (by kernel_rfl) (fun _ _ _ h => h) (Or.inl ⟨by rfl, ?hy3⟩) ?rest3
      case hy3 => (intro w; go_simp; try with_reducible rfl)
      refine wpAny_take (i := 6) (v := ?v4) rfl (by kernel_rfl) (by kernel_rfl) (by kernel_rfl) (fun _ _ _ h => h) (Or.inl ⟨by rfl, ?hy4⟩) ?rest4
      case hy4 => (intro w; go_simp; try with_reducible rfl)
      refine wpAny_take (i := 7) (v := ?v5) rfl (by kernel_rfl) (by kernel_rfl) (by kernel_rfl) (fun _ _ _ h => h) (Or.inl ⟨by rfl, ?hy5⟩) ?rest5
      case hy5 => (intro w; go_simp; try with_reducible rfl)
      refine wpAny_take (i := 8) (v := ?v6) rfl (by kernel_rfl) (by kernel_rfl) (by kernel_rfl) (fun _ _ _ h => h) (Or.inl ⟨by rfl, ?hy6⟩) ?rest6
      case hy6 => (intro w; go_simp; try with_reducible rfl)
      refine wpAny_ready (rs := [5, 9]) (by kernel_rfl) (by simp) ?_
      refine AllReady.cons rfl (fun K hK => ?_) (AllReady.cons rfl (fun K hK => ?_) AllReady.nil)
      · go_simp
        refine hK _ _ ?_
        clear hK K
        refine wpAny_ready (rs := [9]) (by kernel_rfl) (by simp) ?_
        refine AllReady.cons rfl (fun K hK => ?_) AllReady.nil
        go_simp
        refine hK _ _ ?_
        clear hK K
        refine wpAny_take (i := 10) (v := ?v7) rfl (by kernel_rfl) (by kernel_rfl) (by kernel_rfl) (fun _ _ _ h => h) (Or.inl ⟨by rfl, ?hy7⟩) ?rest7
        case hy7 => (intro w; go_simp; try with_reducible rfl)
        refine wpAny_take (i := 11) (v := ?v8) rfl (by kernel_rfl) (by kernel_rfl) (by kernel_rfl) (fun _ _ _ h => h) (Or.inl ⟨by rfl, ?hy8⟩) ?rest8
        case hy8 => (intro w; go_simp; try with_reducible rfl)
        refine wpAny_take (i := 12) (v := ?v9) rfl (by kernel_rfl) (by kernel_rfl) (by kernel_rfl) (fun _ _ _ h => h) (Or.inl ⟨by rfl, ?hy9⟩) ?rest9
        case hy9 => (intro w; go_simp; try with_reducible rfl)
        refine wpAny_take (i := 13) (v := ?v10) rfl (by kernel_rfl) (by kernel_rfl) (by kernel_rfl) (fun _ _ _ h => h) (Or.inl ⟨by rfl, ?hy10⟩) ?rest10
        case hy10 => (intro w; go_simp; try with_reducible rfl)
        refine wpAny_ready (rs := [14]) (by kernel_rfl) (by simp) ?_
        refine AllReady.cons rfl (fun K hK => ?_) AllReady.nil
        rw [if_pos (by rfl)]
        refine wp_load_row 45 (.tmp 5) rfl wr.heap.size (by kernel_rfl) 45 x.cells.toArray (0, 0) _ bEB Tryz.underlying45 (by kernel_rfl) (by kernel_rfl) ?_
        refine hK _ _ ?_
        clear hK K
        refine wpAny_ready (rs := [15]) (by kernel_rfl) (by simp) ?_
        refine AllReady.cons rfl (fun K hK => ?_) AllReady.nil
        go_simp
        go_at_call 51
        with_reducible refine M.mono ?_
        rintro _ wC ⟨rfl, K1⟩
        try go_simp
        refine hK _ _ ?_
        clear hK K
        have bSC := bSB.keptP K1 (by omega)
        have bEC := bEB0.keptP K1 (by omega)
        have BC := BB.trans (K1.below (fun k _ hk => by omega) BB.size)
        have z0 := bSC.at_ (i := 0) (v := .int .i64 0) rfl
        have z1 := bSC.frozen 0
        have z2 := bEC.at_ (i := 1) (v := .int .i64 7) (by rw [← ht]; rfl)
        clear K1 bSB bEB bEB0 m3 BB M y0 y1
        refine wpAny_take (i := 16) (v := ?v11) rfl (by kernel_rfl) (by kernel_rfl) (by kernel_rfl) (fun _ _ _ h => h) (Or.inl ⟨by rfl, ?hy11⟩) ?rest11
        case hy11 => (intro w; go_simp; try with_reducible rfl)
        refine wpAny_take (i := 17) (v := ?v12) rfl (by kernel_rfl) (by kernel_rfl) (by kernel_rfl) (fun _ _ _ h => h) (Or.inl ⟨by rfl, ?hy12⟩) ?rest12
        case hy12 => (intro w; go_simp; try with_reducible rfl)
        refine wpAny_done (by kernel_rfl) ?_ _
        go_simp
        go_wp2_with fail
        go_roundw
        case rel => exact .inr ⟨rfl, BC.setCell (by show w.heap.size ≤ w.heap.size + 1 + 1 + 1 + 1; omega) _⟩
        case measure => simp [intOf]
      · go_simp
        refine hK _ _ ?_
        clear hK K
        refine wpAny_ready (rs := [5]) (by kernel_rfl) (by simp) ?_
        refine AllReady.cons rfl (fun K hK => ?_) AllReady.nil
        go_simp
        refine hK _ _ ?_
        clear hK K
        refine wpAny_take (i := 10) (v := ?v13) rfl (by kernel_rfl) (by kernel_rfl) (by kernel_rfl) (fun _ _ _ h => h) (Or.inl ⟨by rfl, ?hy13⟩) ?rest13
        case hy13 => (intro w; go_simp; try with_reducible rfl)
        refine wpAny_take (i := 11) (v := ?v14) rfl (by kernel_rfl) (by kernel_rfl) (by kernel_rfl) (fun _ _ _ h => h) (Or.inl ⟨by rfl, ?hy14⟩) ?rest14
        case hy14 => (intro w; go_simp; try with_reducible rfl)
        refine wpAny_take (i := 12) (v := ?v15) rfl (by kernel_rfl) (by kernel_rfl) (by kernel_rfl) (fun _ _ _ h => h) (Or.inl ⟨by rfl, ?hy15⟩) ?rest15
        case hy15 => (intro w; go_simp; try with_reducible rfl)
        refine wpAny_take (i := 13) (v := ?v16) rfl (by kernel_rfl) (by kernel_rfl) (by kernel_rfl) (fun _ _ _ h => h) (Or.inl ⟨by rfl, ?hy16⟩) ?rest16
        case hy16 => (intro w; go_simp; try with_reducible rfl)
        refine wpAny_ready (rs := [14]) (by kernel_rfl) (by simp) ?_
        refine AllReady.cons rfl (fun K hK => ?_) AllReady.nil
        rw [if_pos (by rfl)]
        refine wp_load_row 45 (.tmp 5) rfl wr.heap.size (by kernel_rfl) 45 x.cells.toArray (0, 0) _ bEB Tryz.underlying45 (by kernel_rfl) (by kernel_rfl) ?_
        refine hK _ _ ?_
        clear hK K
        refine wpAny_ready (rs := [15]) (by kernel_rfl) (by simp) ?_
        refine AllReady.cons rfl (fun K hK => ?_) AllReady.nil
        go_simp
        go_at_call 51
        with_reducible refine M.mono ?_
        rintro _ wC ⟨rfl, K1⟩
        try go_simp
        refine hK _ _ ?_
        clear hK K
        have bSC := bSB.keptP K1 (by omega)
        have bEC := bEB0.keptP K1 (by omega)
        have BC := BB.trans (K1.below (fun k _ hk => by omega) BB.size)
        have z0 := bSC.at_ (i := 0) (v := .int .i64 0) rfl
        have z1 := bSC.frozen 0
        have z2 := bEC.at_ (i := 1) (v := .int .i64 7) (by rw [← ht]; rfl)
        clear K1 bSB bEB bEB0 m3 BB M y0 y1
        refine wpAny_take (i := 16) (v := ?v17) rfl (by kernel_rfl) (by kernel_rfl) (by kernel_rfl) (fun _ _ _ h => h) (Or.inl ⟨by rfl, ?hy17⟩) ?rest17
        case hy17 => (intro w; go_simp; try with_reducible rfl)
        refine wpAny_take (i := 17) (v := ?v18) rfl (by kernel_rfl) (by kernel_rfl) (by kernel_rfl) (fun _ _ _ h => h) (Or.inl ⟨by rfl, ?hy18⟩) ?rest18
        case hy18 => (intro w; go_simp; try with_reducible rfl)
        refine wpAny_done (by kernel_rfl) ?_ _
        go_simp
        go_wp2_with fail
        go_roundw
        case rel => exact .inr ⟨rfl, BC.setCell (by show w.heap.size ≤ w.heap.size + 1 + 1 + 1 + 1; omega) _⟩
        case measure => simp [intOf]
    · go_wp2_with fail
      go_ret
      exact ⟨rfl, BL⟩
end Go.Proofs.YtiokbebodblhaaaGreatDoor
namespace Go.Proofs.YtiokbebodblhaaaGreatDoor
open Go.RowKit TraceP

/-- The chapter's event, its span lying at B. -/
def exR (B : Option Addr) : EvtR := { zEvtR with kind := 6, tick := 7, who := 3, req := ⟨false, [47, 97], ⟨B, 1, [⟨0, 4⟩]⟩, noRow, noRow, false, false, -1, -1, zTag⟩ }
def exE : Evt := { zEvt with kind := 6, tick := 7, who := 3, req := ⟨false, [47, 97], [⟨0, 4⟩], ⟨[], [], false, false, -1, -1, zTag⟩⟩ }
theorem i6 : I64 6 := ⟨by decide, by decide⟩
theorem i7 : I64 7 := ⟨by decide, by decide⟩
theorem i3 : I64 3 := ⟨by decide, by decide⟩
theorem i0 : I64 0 := ⟨by decide, by decide⟩
theorem i4 : I64 4 := ⟨by decide, by decide⟩
theorem im1 : I64 (-1) := ⟨by decide, by decide⟩
theorem exS : ∀ a ∈ ([⟨0, 4⟩] : List Spn), SpnI a := fun a ha => by
  have : a = ⟨0, 4⟩ := List.mem_singleton.1 ha
  subst this
  exact ⟨i0, i4⟩
theorem exQ : ReqI exE.req := ⟨⟨by show (1 : Nat) ≤ _; omega, exS⟩, by show (0 : Nat) ≤ _; omega, by show (0 : Nat) ≤ _; omega, im1, im1⟩
theorem exR_ok {w : World} {b : Nat} (h : Blk w b 74 #[.int .i64 0, .int .i64 4]) : EvtOK w (exR (some ⟨b, 0, none⟩)) := by
  have z := zEvtR_ok w
  refine ⟨i6, i7, z.node, i3, ⟨⟨Nat.le_refl _, by show (1 : Nat) ≤ _; omega, ?_⟩, RowOK.none _ _, RowOK.none _ _, exQ⟩, z.met, z.ans, z.fet, z.rep, z.bytes, z.keys⟩
  intro _
  refine ⟨b, 0, rfl, h.lt, fun j v hj => ?_⟩
  rw [Nat.zero_add]
  refine h.at_ ?_
  have e : (#[.int .i64 0, .int .i64 4] : Array Value) = (fl spC [(⟨0, 4⟩ : Spn)]).toArray := rfl
  rw [e, List.getElem?_toArray]
  exact hj
theorem exE_only : exE = onlyE exE := by unfold onlyE exE; simp [zEvt]
theorem exE_right : RightE exE := ⟨⟨⟨by decide, by decide⟩, ⟨by decide, by decide⟩, ⟨by decide, by decide⟩, ⟨by decide, by decide⟩⟩, exE_only⟩
theorem nt {n : Nat} (h : n < 10) : numT (n : Int) = [UInt8.ofNat (48 + n)] := by
  rcases numT_cases (n : Int) with ⟨_, e⟩ | ⟨h0, _⟩
  · rw [e, Int.toNat_natCast, Lib.decDigits_one h]
  · omega
def exT : Txt := [55, 32, 97, 115, 107, 32, 48, 32, 51, 32, 110, 111, 32, 61, 47, 97, 32, 49, 32, 48, 32, 52, 32, 48, 32, 48, 32, 110, 111, 32, 110, 111, 32, 45, 49, 32, 45, 49, 32, 45]
theorem exE_line : lineT exE = exT := by
  have n0 : numT 0 = [48] := nt (n := 0) (by decide)
  have n1 : numT 1 = [49] := nt (n := 1) (by decide)
  have n3 : numT 3 = [51] := nt (n := 3) (by decide)
  have n4 : numT 4 = [52] := nt (n := 4) (by decide)
  have n7 : numT 7 = [55] := nt (n := 7) (by decide)
  have m1 : numT (-1) = [45, 49] := by
    rcases numT_cases (-1) with ⟨h, _⟩ | ⟨_, e⟩
    · omega
    · rw [e, show (- -1 : Int).toNat = 1 from rfl, Lib.decDigits_one (by decide)]; rfl
  have l0 : numT (([] : List Tag).length : Int) = [48] := n0
  have l1 : numT (([⟨0, 4⟩] : List Spn).length : Int) = [49] := n1
  have e : lineW exE = [[55], [97, 115, 107], [48], [51], [110, 111], [61, 47, 97], [49], [48], [52], [48], [48], [110, 111], [110, 111], [45, 49], [45, 49], [45]] := by
    show numT 7 :: kindT 6 :: ([numT 0] ++ [numT 3] ++ (yesT false :: wordT [47, 97] :: ((numT (([⟨0, 4⟩] : List Spn).length : Int) :: ([numT 0, numT 4] ++ [])) ++ ((numT (([] : List Tag).length : Int) :: []) ++ ((numT (([] : List Tag).length : Int) :: []) ++ (yesT false :: yesT false :: numT (-1) :: numT (-1) :: [tagT zTag])))))) = _
    rw [n7, n0, n3, l1, l0, n4, m1]
    rfl
  unfold lineT
  rw [e]
  rfl
theorem exE_text : textE exE = 0 ∧ textT exE = exT := by
  have := text_ok exE_right (by rw [exE_line]; decide)
  rw [exE_line] at this
  exact this
theorem exE_i (w : World) : EvtI exE := ⟨exQ, ((zEvtR_ok w).evtI).2⟩
theorem exE_parse (w : World) : parE exT = some exE := by
  have := parE_line exE_right (exE_i w) (by rw [exE_line]; decide)
  rwa [exE_line] at this
end Go.Proofs.YtiokbebodblhaaaGreatDoor
namespace Go.Proofs.YtiokbebodblhaaaGreatDoor
open Go.RowKit TraceP

theorem info_event : (Tryz.prog.info? 45).map (fun i => (i.zero, i.size, i.bytes)) = some (some (.agg zEvtR.cells.toArray), 57, 664) := by kernel_rfl
theorem fill57 (e : EvtR) : Instr.fill (fun i => some (i * 57, 57)) ((Array.range (1 * 57)).map (fun x => (Value.agg zEvtR.cells.toArray).cells[x % (Value.agg zEvtR.cells.toArray).cells.size]!)) [(0, .agg e.cells.toArray)] = some e.cells.toArray := by kernel_rfl
/-- A row of one event is made. -/
theorem wp_row1 {o : Oper} {a : Act} {w : World} {K : Act → World → Prop} {Q : Exit → Act → World → Prop} (x : Operand) (ho : o.op = .buildSlice 48 1 #[(0, x)]) (e : EvtR) (hx : a.eval x = .agg e.cells.toArray)
    (h : K (a.put o.dst (.slice (some ⟨w.heap.size, 0, none⟩) 1 1)) (w.alloc (.cells e.cells.toArray 45))) : o.wp Tryz.prog a w K Q := by
  obtain ⟨i, hi, hz, hs, hb⟩ := info_parts info_event
  refine wp_buildSlice 48 45 1 _ ho e.cells.toArray i _ Tryz.underlying48 hi hz (by rw [hs]; decide) (by rw [hs]; decide) ?_ h
  rw [hs]
  have e1 : ((#[(0, x)] : Array (Nat × Operand)).map fun (i, x) => (i, a.eval x)).toList = [(0, .agg e.cells.toArray)] := by simp [hx]
  rw [e1]
  exact fill57 e
theorem exE_p : EvtP exE := { zEvt_p (k := 6) (t := 7) (n := 0) (w := 3) ⟨by decide, by decide⟩ i7 i0 i3 with req := ⟨by show (2 : Nat) ≤ _; omega, ⟨by show (1 : Nat) ≤ _; omega, exS⟩, zReq_p.mtch, zReq_p.non, im1, im1, Nat.zero_le _⟩ }
theorem evs_one {w : World} {b : Nat} {e : EvtR} (h : Blk w b 45 e.cells.toArray) (ok : EvtOK w e) : EvsOK w (some ⟨b, 0, none⟩) [e] 1 :=
  ⟨fun _ => ⟨b, 0, rfl, h.lt, fun j v hj => by rw [Nat.zero_add]; exact h.at_ (by rw [List.getElem?_toArray]; rw [fl_one] at hj; exact hj)⟩, Nat.le_refl _, by show (1 : Nat) ≤ _; omega, fun x hx => by rw [List.mem_singleton] at hx; exact hx ▸ ok⟩
set_option maxRecDepth 100000 in
set_option maxHeartbeats 6400000 in
theorem alive_calls (w : World) (hS : Std w) : Calls Tryz.prog 11 #[] w fun e w' => e = .returned (.bool true) ∧ Below w.heap.size w w' := by
  have bS0 := Blk.new w 74 #[.int .i64 0, .int .i64 4]
  have B0 := below_new w (.cells #[.int .i64 0, .int .i64 4] 74)
  go_enter Tryz.func11, Tryz.ntmps11
  go_upto_region 1 with (fail)
  with_reducible refine wp_region_lit ?_
  with_reducible refine wpList_cutAt 2 ?_
  simp only [List.take_succ_cons, List.take_zero, List.drop_succ_cons, List.drop_zero]
  repeat (first | go_values | go_skip | go_guarded | go_step | go_upon)
  with_reducible refine CutQ.go_ ?_
  with_reducible refine wpList_abs (fun w' => Blk w' w.heap.size 74 #[.int .i64 0, .int .i64 4] ∧ Below w.heap.size w w') ?_ ?_
  · exact ⟨bS0, B0⟩
  clear bS0 B0
  rintro w1 ⟨bS, B1⟩
  with_reducible refine wpList_cutAt 2 ?_
  simp only [List.take_succ_cons, List.take_zero, List.drop_succ_cons, List.drop_zero]
  repeat (first | go_values | go_skip | go_guarded | go_step | go_upon)
  with_reducible refine CutQ.go_ ?_
  with_reducible refine wpList_build_eq rfl 45 _ rfl (exR (some ⟨w.heap.size, 0, none⟩)).cells.toArray (by kernel_rfl) ?_
  go_frame
  with_reducible refine wpList_cutAt 1 ?_
  simp only [List.take_succ_cons, List.take_zero, List.drop_succ_cons, List.drop_zero]
  repeat (first | go_values | go_skip | go_guarded | go_step | go_upon)
  with_reducible refine CutQ.go_ ?_
  with_reducible refine wpList_abs (fun w' => Blk w' w1.heap.size 45 zEvtR.cells.toArray ∧ Below w1.heap.size w1 w') ?_ ?_
  · exact ⟨Blk.new w1 45 zEvtR.cells.toArray, below_new w1 (.cells zEvtR.cells.toArray 45)⟩
  rintro w20 ⟨bE0, dE0⟩
  have bE' : w20.heap[w1.heap.size]? = some (Obj.cells zEvtR.cells.toArray 45) := bE0
  with_reducible refine wpList_store_row rfl 45 (.tmp 1) (.tmp 10) rfl w1.heap.size (exR (some ⟨w.heap.size, 0, none⟩)).cells.toArray (by kernel_rfl) (by kernel_rfl) 45 zEvtR.cells.toArray bE' (by kernel_rfl) (by kernel_rfl) (by kernel_rfl) (wpList_nil ?_)
  have bE := bE0.setRow_ (exR (some ⟨w.heap.size, 0, none⟩)).cells.toArray
  have dE := below_setRow dE0 (Nat.le_refl _) (exR (some ⟨w.heap.size, 0, none⟩)).cells.toArray
  revert bE dE
  generalize w20.setRow w1.heap.size (exR (some ⟨w.heap.size, 0, none⟩)).cells.toArray = w2
  clear bE' bE0 dE0 w20
  intro bE dE
  simp only [Act.put]
  have hb1 := bS.lt
  have bS2 := bS.below dE hb1
  have B2 := B1.trans (dE.mono B1.size)
  have ox := exR_ok bS2
  obtain ⟨x, hx⟩ : ∃ x, x = (exR (some ⟨w.heap.size, 0, none⟩)) := ⟨_, rfl⟩
  have hxa : x.abs = exE := by rw [hx]; rfl
  have hx1 : x.kind = 6 ∧ x.node = 0 ∧ x.who = 3 ∧ x.tick = 7 := by rw [hx]; exact ⟨rfl, rfl, rfl, rfl⟩
  rw [← hx] at bE ox ⊢
  clear hx dE bS bS2 B1
  have bE' : w2.heap[w1.heap.size]? = some (Obj.cells x.cells.toArray 45) := bE
  have FT : Fits (lineW x.abs) := by
    rw [hxa]
    have := line_lw exE_p
    exact ⟨Nat.le_trans this.1 (by decide), this.2⟩
  have TC := tx_calls x w2 (hS.below B2) ox FT
  go_upto_region 2 with (fail)
  with_reducible refine wp_region_lit ?_
  with_reducible refine wpList_load_row rfl 45 (.tmp 1) rfl w1.heap.size (by kernel_rfl) 45 x.cells.toArray (0, 0) _ bE' Tryz.underlying45 (by kernel_rfl) (by kernel_rfl) ?_
  go_frame
  go_upto_region 3 with (go_at_call 13; refine TC.mono ?_; rintro _ w3 ⟨hr, d3⟩; unfold RetTx at hr; rw [hxa, exE_text.1, exE_text.2] at hr; subst hr; clear TC)
  have bE3 := bE.below d3 bE.lt
  have B3 := B2.trans (d3.mono B2.size)
  have ox3 := ox.below d3
  clear bE bE' B2 ox FT d3
  have PC := parse_calls w3 (hS.below B3) exT
  with_reducible refine wp_region_lit ?_
  with_reducible refine wpList_cutAt 5 ?_
  simp only [List.take_succ_cons, List.take_zero, List.drop_succ_cons, List.drop_zero]
  go_wp2_with (go_at_call 15; refine PC.mono ?_; rintro _ w4 ⟨y, hr, hy, ny, d4⟩; have hpn : parN exT = 0 := by { unfold parN; rw [exE_parse w]; rfl }; rw [hpn] at hr; subst hr; rw [exE_parse w] at hy; clear PC hpn)
  with_reducible refine CutQ.go_ ?_
  with_reducible refine wpList_cutAt 1 ?_
  simp only [List.take_succ_cons, List.take_zero, List.drop_succ_cons, List.drop_zero]
  repeat (first | go_values | go_skip | go_guarded | go_step | go_upon)
  with_reducible refine CutQ.go_ ?_
  with_reducible refine wpList_abs (fun w' => Blk w' w4.heap.size 45 zEvtR.cells.toArray ∧ Below w4.heap.size w4 w') ?_ ?_
  · exact ⟨Blk.new w4 45 zEvtR.cells.toArray, below_new w4 (.cells zEvtR.cells.toArray 45)⟩
  rintro w50 ⟨bF0, dF0⟩
  have bF' : w50.heap[w4.heap.size]? = some (Obj.cells zEvtR.cells.toArray 45) := bF0
  with_reducible refine wpList_store_row rfl 45 (.tmp 4) (.tmp 19) rfl w4.heap.size y.cells.toArray (by kernel_rfl) (by kernel_rfl) 45 zEvtR.cells.toArray bF' (by kernel_rfl) (by kernel_rfl) (by kernel_rfl) ?_
  have bF := bF0.setRow_ y.cells.toArray
  have dF := below_setRow dF0 (Nat.le_refl _) y.cells.toArray
  revert bF dF
  generalize w50.setRow w4.heap.size y.cells.toArray = w5
  clear bF' bF0 dF0 w50
  intro bF dF
  simp only [Act.put]
  go_upto_region 4 with (fail)
  have hya : y.abs = exE := hy
  have B4 := B3.trans (d4.mono B3.size)
  have B5 := B4.trans (dF.mono B4.size)
  have bE4 := bE3.below d4 bE3.lt
  have bE5 := bE4.below dF bE4.lt
  have ox5 := (ox3.below d4).below dF
  have oy5 := (ny.below dF).ok (by rw [hya]; exact exE_p)
  clear bE3 bE4 ox3 ny d4 dF hy B3 B4
  have hq : ((bstr exT).toList == [55, 32, 97, 115, 107, 32, 48, 32, 51, 32, 110, 111, 32, 61, 47, 97, 32, 49, 32, 48, 32, 52, 32, 48, 32, 48, 32, 110, 111, 32, 110, 111, 32, 45, 49, 32, 45, 49, 32, 45]) = true := by rw [bstr_list]; rfl
  have bF' : w5.heap[w4.heap.size]? = some (.cells y.cells.toArray 45 (0, 0)) := bF
  with_reducible refine wp_region_lit ?_
  with_reducible refine wpList_cutAt 11 ?_
  simp only [List.take_succ_cons, List.take_zero, List.drop_succ_cons, List.drop_zero]
  repeat (first | go_values | go_skip | go_guarded | go_step | go_upon)
  with_reducible refine CutQ.go_ ?_
  with_reducible refine wpList_one (by kernel_rfl) (fun Ka hKa => ?_)
  refine wp_load_row 45 (.tmp 4) rfl w4.heap.size (by kernel_rfl) 45 y.cells.toArray (0, 0) _ bF' Tryz.underlying45 (by kernel_rfl) (by kernel_rfl) ?_
  refine hKa _ _ ?_
  clear hKa Ka
  go_frame
  with_reducible refine wpList_one (by kernel_rfl) (fun Kb hKb => ?_)
  refine wp_row1 (.tmp 32) rfl y (by kernel_rfl) ?_
  refine hKb _ _ ?_
  clear hKb Kb
  go_frame
  with_reducible refine wpList_abs (fun w' => Blk w' w5.heap.size 45 y.cells.toArray ∧ Below w5.heap.size w5 w') ?_ ?_
  · exact ⟨Blk.new w5 45 y.cells.toArray, below_new w5 (.cells y.cells.toArray 45)⟩
  rintro w6 ⟨bG, d6⟩
  have bE6 := bE5.below d6 bE5.lt
  have bE6' : w6.heap[w1.heap.size]? = some (.cells x.cells.toArray 45 (0, 0)) := bE6
  with_reducible refine wpList_one (by kernel_rfl) (fun Kc hKc => ?_)
  refine wp_load_row 45 (.tmp 1) rfl w1.heap.size (by kernel_rfl) 45 x.cells.toArray (0, 0) _ bE6' Tryz.underlying45 (by kernel_rfl) (by kernel_rfl) ?_
  refine hKc _ _ ?_
  clear hKc Kc
  go_frame
  with_reducible refine wpList_one (by kernel_rfl) (fun Kd hKd => ?_)
  refine wp_row1 (.tmp 34) rfl x (by kernel_rfl) ?_
  refine hKd _ _ ?_
  clear hKd Kd
  go_frame
  with_reducible refine wpList_abs (fun w' => Blk w' w6.heap.size 45 x.cells.toArray ∧ Below w6.heap.size w6 w') ?_ ?_
  · exact ⟨Blk.new w6 45 x.cells.toArray, below_new w6 (.cells x.cells.toArray 45)⟩
  rintro w7 ⟨bH, d7⟩
  have B6 := B5.trans (d6.mono B5.size)
  have B7 := B6.trans (d7.mono B6.size)
  have SC := same_calls w7 _ _ _ _ [y] [x] (evs_one (bG.below d7 bG.lt) ((oy5.below d6).below d7)) (evs_one bH ((ox5.below d6).below d7))
  rw [show sm (absL [y]) (absL [x]) = true from sm_true (by show [y.abs] = [x.abs]; rw [hya, hxa])] at SC
  have bE7 := bE6.below d7 bE6.lt
  have ox7 := (ox5.below d6).below d7
  clear bE5 bE6 bE6' ox5 oy5 bF bF' bG bH d6 d7 B5 B6
  with_reducible refine wpList_cutAt 3 ?_
  simp only [List.take_succ_cons, List.take_zero, List.drop_succ_cons, List.drop_zero]
  go_wp2_with (go_at_call 18; refine SC.mono ?_; rintro _ w8 ⟨rfl, d8⟩; have B8 := B7.trans (d8.mono B7.size); have bE8 := bE7.below d8 bE7.lt; have ox8 := ox7.below d8; clear SC d8 B7 bE7 ox7)
  with_reducible refine CutQ.go_ ?_
  have bE8' : w8.heap[w1.heap.size]? = some (.cells x.cells.toArray 45 (0, 0)) := bE8
  with_reducible refine wpList_one (by kernel_rfl) (fun Ke hKe => ?_)
  refine wp_load_row 45 (.tmp 1) rfl w1.heap.size (by kernel_rfl) 45 x.cells.toArray (0, 0) _ bE8' Tryz.underlying45 (by kernel_rfl) (by kernel_rfl) ?_
  refine hKe _ _ ?_
  clear hKe Ke
  go_frame
  with_reducible refine wpList_one (by kernel_rfl) (fun Kf hKf => ?_)
  refine wp_row1 (.tmp 39) rfl x (by kernel_rfl) ?_
  refine hKf _ _ ?_
  clear hKf Kf
  go_frame
  with_reducible refine wpList_abs (fun w' => Blk w' w8.heap.size 45 x.cells.toArray ∧ Below w8.heap.size w8 w') ?_ ?_
  · exact ⟨Blk.new w8 45 x.cells.toArray, below_new w8 (.cells x.cells.toArray 45)⟩
  rintro w9 ⟨bI, d9⟩
  have B9 := B8.trans (d9.mono B8.size)
  obtain ⟨h1, h2, h3, h4⟩ := hx1
  have RC := right_one w9 (hS.below B9) x _ _ (evs_one bI (ox8.below d9)) ((rightB_iff _).2 (by rw [hxa]; exact exE_right)) h1 h2 h3 h4
  clear bE8 bE8' ox8 bI d9 h1 h2 h3 h4 hxa hya hq B8
  go_wp2_with (go_at_call 20; refine RC.mono ?_; rintro _ wz ⟨rfl, dz⟩; have BZ := B9.trans (dz.mono B9.size); clear RC dz B9)
  go_ret
  exact ⟨rfl, BZ⟩
end Go.Proofs.YtiokbebodblhaaaGreatDoor
