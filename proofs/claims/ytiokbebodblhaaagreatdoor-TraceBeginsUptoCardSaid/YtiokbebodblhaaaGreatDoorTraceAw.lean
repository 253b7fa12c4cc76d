/-
  Walk: (*state).answers, of a client's events. Printed by stgen.py.
-/
import Derived.Test.YtiokbebodblhaaaGreatDoorTMap
import Derived.Test.YtiokbebodblhaaaGreatDoorTTx
import Derived.Deep.Cut
import Derived.StillTailTactics
namespace Go.Proofs.YtiokbebodblhaaaGreatDoor
open Go.RowKit Go.Maps Go.WideMaps TraceP
attribute [local go_sem] Row.val
set_option maxRecDepth 100000 in
set_option maxHeartbeats 3200000 in
theorem answers_calls (w : World) (w0 n : Nat) (B : StB) (s : PSt) (e : EvtR) (h0 : StOK w0 w B n s) (ho : EvtOK w e) (hk0 : 6 ≤ e.kind ∧ e.kind ≤ 10) (hz0 : w0 ≤ w.heap.size) (hn : n < 1000000) :
    Calls Tryz.prog 105 #[.pointer (some ⟨B.g, 0, none⟩), .agg e.cells.toArray] w fun r w' => r = .returned (.bool (mayB s e.abs)) ∧ May w0 B (n + 2) (mayS s e.abs) w w' := by
  have bE := Blk.new w 45 e.cells.toArray
  have Bw := (Kept.refl (StF B) w).alloc (.cells e.cells.toArray 45)
  have h := h0.alloc (.cells e.cells.toArray 45)
  have hz : w0 ≤ (w.alloc (.cells e.cells.toArray 45)).heap.size := by simp; omega
  have hEB := h0.apart (Nat.le_refl _)
  obtain ⟨kl, hkl⟩ := key_place ho.node ho.who
  go_enter Tryz.func105, Tryz.ntmps105
  go_upto_region 1 with fail
  revert bE Bw h hz
  generalize w.alloc (.cells e.cells.toArray 45) = w1
  intro bE Bw h hz
  obtain ⟨gE, hgE⟩ : ∃ g, g = w.heap.size := ⟨_, rfl⟩
  rw [← hgE] at bE hEB ⊢
  clear hgE h0
  have c2 := bE.at_ (i := 2) (v := .int .i64 e.node) rfl
  have c3 := bE.at_ (i := 3) (v := .int .i64 e.who) rfl
  go_upto_region 2 with fail
  clear c2 c3
  have bP := Blk.new w1 121 #[.int .i64 e.node, .int .i64 e.who]
  have hPB := h.apart (Nat.le_refl _)
  have bE_ := bE.alloc (.cells #[.int .i64 e.node, .int .i64 e.who] 121)
  have h_ := h.alloc (.cells #[.int .i64 e.node, .int .i64 e.who] 121)
  have Bw_ := Bw.alloc (.cells #[.int .i64 e.node, .int .i64 e.who] 121)
  have hz_ : w0 ≤ (w1.alloc (.cells #[.int .i64 e.node, .int .i64 e.who] 121)).heap.size := by simp; omega
  clear bE h Bw hz
  revert bP bE_ h_ Bw_ hz_
  generalize w1.alloc (.cells #[.int .i64 e.node, .int .i64 e.who] 121) = w2
  intro bP bE h Bw hz
  obtain ⟨gP, hgP⟩ : ∃ g, g = w1.heap.size := ⟨_, rfl⟩
  rw [← hgP] at bP hPB ⊢
  clear hgP
  have cg := h.blk.at_ (i := 2) (v := .map (some B.wt)) rfl
  have p0 := bP.at_ (i := 0) (v := .int .i64 e.node) rfl
  have p1 := bP.at_ (i := 1) (v := .int .i64 e.who) rfl
  obtain ⟨F_, m_, f_⟩ := h.mw
  go_still_tail 5, (by kernel_rfl)
  change wpList _ _ _ _ _ w2.drew
  replace m_ : MapO w2.drew 121 B.wt n F_ := m_.of_block rfl
  with_reducible refine wpList_look_O rfl (.tmp 15) (.tmp 16) 104 121 rfl placeKeyed Tryz.underlying104 B.wt n F_ (by kernel_rfl) m_ (pv e.node e.who) kl (by kernel_rfl) hkl ?_
  rw [f_ e.node e.who]
  clear m_ f_
  go_frame
  clear cg p0 p1
  obtain ⟨x, hx⟩ : ∃ x, x = s.wt e.node e.who := ⟨_, rfl⟩
  rw [← hx]
  go_upto_region 3 with fail
  have h_ := h.of_below ((Below.refl _ _).drew)
  have Bw_ := Bw.drew
  have bE_ := bE.drew
  have bP_ := bP.drew
  have hz_ : w0 ≤ w2.drew.heap.size := hz
  clear h Bw bE bP hz
  revert h_ Bw_ bE_ bP_ hz_
  generalize w2.drew = w3
  intro h Bw bE bP hz
  have c0 := bE.at_ (i := 0) (v := .int .i64 e.kind) rfl
  have K5 : e.kind = 6 ∨ e.kind = 7 ∨ e.kind = 8 ∨ e.kind = 9 ∨ e.kind = 10 := by omega
  clear hk0
  rcases K5 with hk | hk | hk | hk | hk
  · have q6 : (e.kind == 6) = true := by rw [hk]; rfl
    go_upto_region 5 with fail
    clear c0 q6
    have cg := h.blk.at_ (i := 2) (v := .map (some B.wt)) rfl
    have p0 := bP.at_ (i := 0) (v := .int .i64 e.node) rfl
    have p1 := bP.at_ (i := 1) (v := .int .i64 e.who) rfl
    obtain ⟨F_, m_, f_⟩ := h.mw
    go_still_tail 5, (by kernel_rfl)
    change wpList _ _ _ _ _ w3.drew
    replace m_ : MapO w3.drew 121 B.wt n F_ := m_.of_block rfl
    with_reducible refine wpList_store_O rfl (.tmp 25) (.tmp 26) (.const (.int .i64 1)) 104 121 rfl placeKeyed Tryz.underlying104 B.wt n F_ (by kernel_rfl) m_ (by omega) (pv e.node e.who) 1 kl (by kernel_rfl) (by kernel_rfl) hkl (by unfold I64; decide) ?_
    intro w4 mN gN
    replace h := (h.of_below ((Below.refl _ _).drew)).wt_ gN (Nat.le_succ _) mN (f_.set e.node e.who (c := 1) rfl)
    replace Bw := Bw.drew.grown gN (fun k hk => .inl (.inr <| .inr <| .inl (Option.some.inj hk).symm))
    replace bE := bE.drew.grownB gN (fun q => by injection q with q; exact hEB.wt q)
    replace bP := bP.drew.grownB gN (fun q => by injection q with q; exact hPB.wt q)
    replace hz : w0 ≤ w4.heap.size := Nat.le_trans hz gN.size
    clear mN gN m_ f_
    go_frame
    clear cg p0 p1
    go_wp2_with fail
    go_ret
    refine ⟨?_, ⟨by rw [mayS_6 (e := e.abs) hk]; exact h.more (by omega), Bw⟩⟩
    rw [mayB_6 (e := e.abs) hk]
    show _ = Ending.returned (.bool (s.wt e.node e.who == 0))
    rw [← hx, ← (nbeq x 0)]
    rfl
  · have q6 : (e.kind == 6) = false := by rw [hk]; rfl
    have q7 : (e.kind == 7) = true := by rw [hk]; rfl
    go_upto_region 8 with fail
    clear c0 q6 q7
    have cg := h.blk.at_ (i := 2) (v := .map (some B.wt)) rfl
    have p0 := bP.at_ (i := 0) (v := .int .i64 e.node) rfl
    have p1 := bP.at_ (i := 1) (v := .int .i64 e.who) rfl
    obtain ⟨F_, m_, f_⟩ := h.mw
    go_still_tail 5, (by kernel_rfl)
    change wpList _ _ _ _ _ w3.drew
    replace m_ : MapO w3.drew 121 B.wt n F_ := m_.of_block rfl
    with_reducible refine wpList_delete_O rfl (.tmp 34) (.tmp 35) 104 121 rfl placeKeyed Tryz.underlying104 B.wt n F_ (by kernel_rfl) m_ (pv e.node e.who) kl (by kernel_rfl) hkl ?_
    intro w4 mN gN
    replace h := (h.of_below ((Below.refl _ _).drew)).wt_ gN (Nat.le_refl _) mN (f_.set e.node e.who (c := 0) rfl)
    replace Bw := Bw.drew.grown gN (fun k hk => .inl (.inr <| .inr <| .inl (Option.some.inj hk).symm))
    replace bE := bE.drew.grownB gN (fun q => by injection q with q; exact hEB.wt q)
    replace bP := bP.drew.grownB gN (fun q => by injection q with q; exact hPB.wt q)
    replace hz : w0 ≤ w4.heap.size := Nat.le_trans hz gN.size
    clear mN gN m_ f_
    go_frame
    clear cg p0 p1
    go_wp2_with fail
    go_ret
    refine ⟨?_, ⟨by rw [mayS_7 (e := e.abs) hk]; exact h.more (by omega), Bw⟩⟩
    rw [mayB_7 (e := e.abs) hk]
    show _ = Ending.returned (.bool (s.wt e.node e.who != 0))
    rw [← hx, ← (nbne x 0)]
    rfl
  · have q6 : (e.kind == 6) = false := by rw [hk]; rfl
    have q7 : (e.kind == 7) = false := by rw [hk]; rfl
    have q8 : (e.kind == 8) = true := by rw [hk]; rfl
    go_upto_region 11 with fail
    clear c0 q6 q7 q8
    have cg := h.blk.at_ (i := 2) (v := .map (some B.wt)) rfl
    have p0 := bP.at_ (i := 0) (v := .int .i64 e.node) rfl
    have p1 := bP.at_ (i := 1) (v := .int .i64 e.who) rfl
    obtain ⟨F_, m_, f_⟩ := h.mw
    go_still_tail 5, (by kernel_rfl)
    change wpList _ _ _ _ _ w3.drew
    replace m_ : MapO w3.drew 121 B.wt n F_ := m_.of_block rfl
    with_reducible refine wpList_store_O rfl (.tmp 43) (.tmp 44) (.const (.int .i64 2)) 104 121 rfl placeKeyed Tryz.underlying104 B.wt n F_ (by kernel_rfl) m_ (by omega) (pv e.node e.who) 2 kl (by kernel_rfl) (by kernel_rfl) hkl (by unfold I64; decide) ?_
    intro w4 mN gN
    replace h := (h.of_below ((Below.refl _ _).drew)).wt_ gN (Nat.le_succ _) mN (f_.set e.node e.who (c := 2) rfl)
    replace Bw := Bw.drew.grown gN (fun k hk => .inl (.inr <| .inr <| .inl (Option.some.inj hk).symm))
    replace bE := bE.drew.grownB gN (fun q => by injection q with q; exact hEB.wt q)
    replace bP := bP.drew.grownB gN (fun q => by injection q with q; exact hPB.wt q)
    replace hz : w0 ≤ w4.heap.size := Nat.le_trans hz gN.size
    clear mN gN m_ f_
    go_frame
    clear cg p0 p1
    go_wp2_with fail
    go_ret
    refine ⟨?_, ⟨by rw [mayS_8 (e := e.abs) hk]; exact h.more (by omega), Bw⟩⟩
    rw [mayB_8 (e := e.abs) hk]
    show _ = Ending.returned (.bool (s.wt e.node e.who == 1))
    rw [← hx, ← (nbeq x 1)]
    rfl
  · have q6 : (e.kind == 6) = false := by rw [hk]; rfl
    have q7 : (e.kind == 7) = false := by rw [hk]; rfl
    have q8 : (e.kind == 8) = false := by rw [hk]; rfl
    have q9 : (e.kind == 9) = true := by rw [hk]; rfl
    go_upto_region 14 with fail
    clear c0 q6 q7 q8 q9
    have c53 := bE.at_ (i := 53) (v := e.bytes.val) rfl
    by_cases hx2 : x = 2
    · have dx : ((x : Int) == 2) = true := by rw [hx2]; rfl
      go_wp2_with fail
      go_ret
      refine ⟨?_, ⟨by rw [mayS_9 (e := e.abs) hk]; exact h.more (by omega), Bw⟩⟩
      rw [mayB_9 (e := e.abs) hk]
      show _ = Ending.returned (.bool ((s.wt e.node e.who == 2) && decide (0 < e.bytes.l.length)))
      rw [← hx, hx2, ← nlt 0 e.bytes.l.length]
      rfl
    · have dx : ((x : Int) == 2) = false := by rw [show (2 : Int) = ((2 : Nat) : Int) from rfl, nbeq]; exact beq_eq_false_iff_ne.2 hx2
      go_wp2_with fail
      go_ret
      refine ⟨?_, ⟨by rw [mayS_9 (e := e.abs) hk]; exact h.more (by omega), Bw⟩⟩
      rw [mayB_9 (e := e.abs) hk]
      show _ = Ending.returned (.bool ((s.wt e.node e.who == 2) && decide (0 < e.bytes.l.length)))
      rw [← hx, beq_eq_false_iff_ne.2 hx2]
      rfl
  · have q6 : (e.kind == 6) = false := by rw [hk]; rfl
    have q7 : (e.kind == 7) = false := by rw [hk]; rfl
    have q8 : (e.kind == 8) = false := by rw [hk]; rfl
    have q9 : (e.kind == 9) = false := by rw [hk]; rfl
    go_upto_region 15 with fail
    clear c0 q6 q7 q8 q9
    have cg := h.blk.at_ (i := 2) (v := .map (some B.wt)) rfl
    have p0 := bP.at_ (i := 0) (v := .int .i64 e.node) rfl
    have p1 := bP.at_ (i := 1) (v := .int .i64 e.who) rfl
    obtain ⟨F_, m_, f_⟩ := h.mw
    go_still_tail 5, (by kernel_rfl)
    change wpList _ _ _ _ _ w3.drew
    replace m_ : MapO w3.drew 121 B.wt n F_ := m_.of_block rfl
    with_reducible refine wpList_delete_O rfl (.tmp 60) (.tmp 61) 104 121 rfl placeKeyed Tryz.underlying104 B.wt n F_ (by kernel_rfl) m_ (pv e.node e.who) kl (by kernel_rfl) hkl ?_
    intro w4 mN gN
    replace h := (h.of_below ((Below.refl _ _).drew)).wt_ gN (Nat.le_refl _) mN (f_.set e.node e.who (c := 0) rfl)
    replace Bw := Bw.drew.grown gN (fun k hk => .inl (.inr <| .inr <| .inl (Option.some.inj hk).symm))
    replace bE := bE.drew.grownB gN (fun q => by injection q with q; exact hEB.wt q)
    replace bP := bP.drew.grownB gN (fun q => by injection q with q; exact hPB.wt q)
    replace hz : w0 ≤ w4.heap.size := Nat.le_trans hz gN.size
    clear mN gN m_ f_
    go_frame
    clear cg p0 p1
    go_wp2_with fail
    go_ret
    refine ⟨?_, ⟨by rw [mayS_10 (e := e.abs) hk]; exact h.more (by omega), Bw⟩⟩
    rw [mayB_10 (e := e.abs) hk]
    show _ = Ending.returned (.bool (s.wt e.node e.who == 2))
    rw [← hx, ← (nbeq x 2)]
    rfl
end Go.Proofs.YtiokbebodblhaaaGreatDoor
