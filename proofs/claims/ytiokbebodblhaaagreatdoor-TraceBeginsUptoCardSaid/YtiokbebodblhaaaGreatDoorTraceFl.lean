/-
  Walk: (*state).flies, of a flight's events. Printed by stgen.py.
-/
import Derived.Test.YtiokbebodblhaaaGreatDoorTMap
import Derived.Test.YtiokbebodblhaaaGreatDoorTTx
import Derived.Deep.Cut
import Derived.Deep.RegionHeld
import Derived.StillTailTactics
namespace Go.Proofs.YtiokbebodblhaaaGreatDoor
open Go.RowKit Go.Maps Go.WideMaps TraceP
attribute [local go_sem] Row.val
theorem setP_twice (f : Int → Int → Nat) (a b : Int) (x y : Nat) : setP (setP f a b x) a b y = setP f a b y := by
  funext c d
  unfold setP
  by_cases h : c = a ∧ d = b
  · rw [if_pos h, if_pos h]
  · rw [if_neg h, if_neg h, if_neg h]
set_option maxRecDepth 100000 in
set_option maxHeartbeats 3200000 in
theorem flies_calls (w : World) (w0 n : Nat) (B : StB) (s : PSt) (e : EvtR) (h0 : StOK w0 w B n s) (ho : EvtOK w e) (hk0 : 11 ≤ e.kind ∧ e.kind ≤ 15) (hz0 : w0 ≤ w.heap.size) (hn : n < 1000000) :
    Calls Tryz.prog 104 #[.pointer (some ⟨B.g, 0, none⟩), .agg e.cells.toArray] w fun r w' => r = .returned (.bool (mayB s e.abs)) ∧ May w0 B (n + 2) (mayS s e.abs) w w' := by
  have bE := Blk.new w 45 e.cells.toArray
  have Bw := (Kept.refl (StF B) w).alloc (.cells e.cells.toArray 45)
  have h := h0.alloc (.cells e.cells.toArray 45)
  have hz : w0 ≤ (w.alloc (.cells e.cells.toArray 45)).heap.size := by simp; omega
  have hEB := h0.apart (Nat.le_refl _)
  obtain ⟨kl, hkl⟩ := key_place ho.node ho.who
  have hkn := key_int ho.node
  go_enter Tryz.func104, Tryz.ntmps104
  go_upto_region 1 with fail
  revert bE Bw h hz
  generalize w.alloc (.cells e.cells.toArray 45) = w1
  intro bE Bw h hz
  obtain ⟨gE, hgE⟩ : ∃ g, g = w.heap.size := ⟨_, rfl⟩
  rw [← hgE] at bE hEB ⊢
  clear hgE h0
  have c2 := bE.at_ (i := 2) (v := .int .i64 e.node) rfl
  have c3 := bE.at_ (i := 3) (v := .int .i64 e.who) rfl
  go_upto_region 2 with fail
  clear c2 c3
  have bP := Blk.new w1 121 #[.int .i64 e.node, .int .i64 e.who]
  have hPB := h.apart (Nat.le_refl _)
  have bE_ := bE.alloc (.cells #[.int .i64 e.node, .int .i64 e.who] 121)
  have h_ := h.alloc (.cells #[.int .i64 e.node, .int .i64 e.who] 121)
  have Bw_ := Bw.alloc (.cells #[.int .i64 e.node, .int .i64 e.who] 121)
  have hz_ : w0 ≤ (w1.alloc (.cells #[.int .i64 e.node, .int .i64 e.who] 121)).heap.size := by simp; omega
  clear bE h Bw hz
  revert bP bE_ h_ Bw_ hz_
  generalize w1.alloc (.cells #[.int .i64 e.node, .int .i64 e.who] 121) = w2
  intro bP bE h Bw hz
  obtain ⟨gP, hgP⟩ : ∃ g, g = w1.heap.size := ⟨_, rfl⟩
  rw [← hgP] at bP hPB ⊢
  clear hgP
  have cg := h.blk.at_ (i := 3) (v := .map (some B.fl)) rfl
  have p0 := bP.at_ (i := 0) (v := .int .i64 e.node) rfl
  have p1 := bP.at_ (i := 1) (v := .int .i64 e.who) rfl
  obtain ⟨F_, m_, f_⟩ := h.mf
  go_still_tail 5, (by kernel_rfl)
  change wpList _ _ _ _ _ w2.drew
  replace m_ : MapO w2.drew 121 B.fl n F_ := m_.of_block rfl
  with_reducible refine wpList_look_O rfl (.tmp 16) (.tmp 17) 104 121 rfl placeKeyed Tryz.underlying104 B.fl n F_ (by kernel_rfl) m_ (pv e.node e.who) kl (by kernel_rfl) hkl ?_
  rw [f_ e.node e.who]
  clear m_ f_
  go_frame
  clear cg p0 p1
  obtain ⟨x, hx⟩ : ∃ x, x = s.fl e.node e.who := ⟨_, rfl⟩
  rw [← hx]
  go_upto_region 3 with fail
  have h_ := h.of_below ((Below.refl _ _).drew)
  have Bw_ := Bw.drew
  have bE_ := bE.drew
  have bP_ := bP.drew
  have hz_ : w0 ≤ w2.drew.heap.size := hz
  clear h Bw bE bP hz
  revert h_ Bw_ bE_ bP_ hz_
  generalize w2.drew = w3
  intro h Bw bE bP hz
  have c0 := bE.at_ (i := 0) (v := .int .i64 e.kind) rfl
  have K5 : e.kind = 11 ∨ e.kind = 12 ∨ e.kind = 13 ∨ e.kind = 14 ∨ e.kind = 15 := by omega
  clear hk0
  rcases K5 with hk | hk | hk | hk | hk
  · have q11 : (e.kind == 11) = true := by rw [hk]; rfl
    go_upto_region 5 with fail
    clear c0 q11
    have cg := h.blk.at_ (i := 4) (v := .map (some B.fe)) rfl
    have c2 := bE.at_ (i := 2) (v := .int .i64 e.node) rfl
    obtain ⟨F_, m_, f_⟩ := h.me
    go_still_tail 6, (by kernel_rfl)
    change wpList _ _ _ _ _ w3.drew
    replace m_ : MapO w3.drew 3 B.fe n F_ := m_.of_block rfl
    with_reducible refine wpList_look_O rfl (.tmp 26) (.tmp 28) 105 3 rfl intKeyed Tryz.underlying105 B.fe n F_ (by kernel_rfl) m_ (.int .i64 e.node) (.int .i64 e.node) (by kernel_rfl) hkn ?_
    rw [f_ e.node]
    clear m_ f_
    go_frame
    clear cg c2
    obtain ⟨y, hy⟩ : ∃ y, y = s.fe e.node := ⟨_, rfl⟩
    rw [← hy]
    go_upto_region 6 with fail
    have h_ := h.of_below ((Below.refl _ _).drew)
    have Bw_ := Bw.drew
    have bE_ := bE.drew
    have bP_ := bP.drew
    have hz_ : w0 ≤ w3.drew.heap.size := hz
    clear h Bw bE bP hz
    revert h_ Bw_ bE_ bP_ hz_
    generalize w3.drew = w4
    intro h Bw bE bP hz
    have SA : ∀ wq : World, Blk wq B.g 107 (B.cells s.tick) → Blk wq gE 45 e.cells.toArray → Blk wq gP 121 #[.int .i64 e.node, .int .i64 e.who] → (wq.cell? ⟨B.g, 3, none⟩ = some (.map (some B.fl)) ∧ wq.cell? ⟨B.g, 4, none⟩ = some (.map (some B.fe)) ∧ wq.cell? ⟨gE, 2, none⟩ = some (.int .i64 e.node) ∧ wq.cell? ⟨gE, 3, none⟩ = some (.int .i64 e.who) ∧ wq.cell? ⟨gP, 0, none⟩ = some (.int .i64 e.node) ∧ wq.cell? ⟨gP, 1, none⟩ = some (.int .i64 e.who)) :=
      fun wq q1 q2 q3 => ⟨q1.at_ (i := 3) rfl, q1.at_ (i := 4) rfl, q2.at_ (i := 2) rfl, q2.at_ (i := 3) rfl, q3.at_ (i := 0) rfl, q3.at_ (i := 1) rfl⟩
    have s0 := SA w4 h.blk bE bP
    have s1 := SA w4.drew h.blk.drew bE.drew bP.drew
    obtain ⟨F_, m_, f_⟩ := h.me
    replace m_ : MapO w4.drew 3 B.fe n F_ := m_.of_block rfl
    obtain ⟨v0, st, wa, wb, r1, r2, mN, gN, gA⟩ := m_.entry intKeyed Tryz.underlying105 (by omega) hkn ho.who
    have neg : B.g ≠ B.fe := h.ne.1.2.2.2
    have neh : B.g ≠ B.fl := h.ne.1.2.2.1
    have s2 := SA wa (h.blk.drew.grownB gA (fun q => neg (Option.some.inj q))) (bE.drew.grownB gA (fun q => hEB.fe (Option.some.inj q))) (bP.drew.grownB gA (fun q => hPB.fe (Option.some.inj q)))
    replace h := (h.of_below ((Below.refl _ _).drew)).fe_ gN (Nat.le_succ _) mN (f_.set e.node (c := e.who) rfl)
    replace Bw := Bw.drew.grown gN (fun k hk => .inl (.inr <| .inr <| .inr <| .inr (Option.some.inj hk).symm))
    replace bE := bE.drew.grownB gN (fun q => hEB.fe (Option.some.inj q))
    replace bP := bP.drew.grownB gN (fun q => hPB.fe (Option.some.inj q))
    replace hz : w0 ≤ wb.heap.size := Nat.le_trans hz gN.size
    have s3 := SA wb h.blk bE bP
    clear mN gN gA m_ f_
    obtain ⟨F_, m_, f_⟩ := h.mf
    obtain ⟨v1, st2, wc, wd, r3, r4, mN, gN, gA⟩ := m_.entry placeKeyed Tryz.underlying104 (by omega) hkl (c := 1) (by unfold I64; decide)
    simp only [pv] at r3
    have s4 := SA wc (h.blk.grownB gA (fun q => neh (Option.some.inj q))) (bE.grownB gA (fun q => hEB.fl (Option.some.inj q))) (bP.grownB gA (fun q => hPB.fl (Option.some.inj q)))
    replace h := h.fl_ gN (Nat.le_succ _) mN (f_.set e.node e.who (c := 1) rfl)
    replace Bw := Bw.grown gN (fun k hk => .inl (.inr <| .inr <| .inr <| .inl (Option.some.inj hk).symm))
    replace bE := bE.grownB gN (fun q => hEB.fl (Option.some.inj q))
    replace bP := bP.grownB gN (fun q => hPB.fl (Option.some.inj q))
    have s5 := SA wd h.blk bE bP
    clear mN gN gA m_ f_ SA neg neh
    have cs := s0
    obtain ⟨cs0, cs1, cs2, cs3, cs4, cs5⟩ := cs
    go_region_held (fun wq => wq.cell? ⟨B.g, 3, none⟩ = some (.map (some B.fl)) ∧ wq.cell? ⟨B.g, 4, none⟩ = some (.map (some B.fe)) ∧ wq.cell? ⟨gE, 2, none⟩ = some (.int .i64 e.node) ∧ wq.cell? ⟨gE, 3, none⟩ = some (.int .i64 e.who) ∧ wq.cell? ⟨gP, 0, none⟩ = some (.int .i64 e.node) ∧ wq.cell? ⟨gP, 1, none⟩ = some (.int .i64 e.who)) (first | exact s0 | exact s1 | exact s2 | exact s3 | exact s4 | exact s5 | fail) (fail)
    go_simp
    clear r1 r2 r3 r4 s0 s1 s2 s3 s4 s5 cs0 cs1 cs2 cs3 cs4 cs5 bP hPB hz
    have c3 := bE.at_ (i := 3) (v := .int .i64 e.who) rfl
    go_wp2_with fail
    go_ret
    refine ⟨?_, ⟨by rw [mayS_11 (e := e.abs) hk]; exact h.more (by omega), Bw⟩⟩
    rw [mayB_11 (e := e.abs) hk]
    show _ = Ending.returned (.bool (decide (s.fe e.node < e.who)))
    rw [← hy]
    rfl
  · have q11 : (e.kind == 11) = false := by rw [hk]; rfl
    have q12 : (e.kind == 12) = true := by rw [hk]; rfl
    go_upto_region 9 with fail
    clear c0 q11 q12
    have cg := h.blk.at_ (i := 3) (v := .map (some B.fl)) rfl
    have p0 := bP.at_ (i := 0) (v := .int .i64 e.node) rfl
    have p1 := bP.at_ (i := 1) (v := .int .i64 e.who) rfl
    obtain ⟨F_, m_, f_⟩ := h.mf
    go_still_tail 5, (by kernel_rfl)
    change wpList _ _ _ _ _ w3.drew
    replace m_ : MapO w3.drew 121 B.fl n F_ := m_.of_block rfl
    with_reducible refine wpList_store_O rfl (.tmp 56) (.tmp 57) (.const (.int .i64 2)) 104 121 rfl placeKeyed Tryz.underlying104 B.fl n F_ (by kernel_rfl) m_ (by omega) (pv e.node e.who) 2 kl (by kernel_rfl) (by kernel_rfl) hkl (by unfold I64; decide) ?_
    intro w4 mN gN
    replace h := (h.of_below ((Below.refl _ _).drew)).fl_ gN (Nat.le_succ _) mN (f_.set e.node e.who (c := 2) rfl)
    replace Bw := Bw.drew.grown gN (fun k hk => .inl (.inr <| .inr <| .inr <| .inl (Option.some.inj hk).symm))
    replace bE := bE.drew.grownB gN (fun q => by injection q with q; exact hEB.fl q)
    replace bP := bP.drew.grownB gN (fun q => by injection q with q; exact hPB.fl q)
    replace hz : w0 ≤ w4.heap.size := Nat.le_trans hz gN.size
    clear mN gN m_ f_
    go_frame
    clear cg p0 p1
    have c38 := bE.at_ (i := 38) (v := .int .i64 e.rep.status) rfl
    by_cases hs : e.rep.status ≠ 200 ∧ e.rep.status ≠ 206
    · have s1 : (e.rep.status != 200) = true := bne_iff_ne.2 hs.1
      have s2 : (e.rep.status != 206) = true := bne_iff_ne.2 hs.2
      go_upto_region 11 with fail
      have cg := h.blk.at_ (i := 3) (v := .map (some B.fl)) rfl
      have p0 := bP.at_ (i := 0) (v := .int .i64 e.node) rfl
      have p1 := bP.at_ (i := 1) (v := .int .i64 e.who) rfl
      obtain ⟨F_, m_, f_⟩ := h.mf
      go_still_tail 5, (by kernel_rfl)
      change wpList _ _ _ _ _ w4.drew
      replace m_ : MapO w4.drew 121 B.fl (n + 1) F_ := m_.of_block rfl
      with_reducible refine wpList_delete_O rfl (.tmp 71) (.tmp 72) 104 121 rfl placeKeyed Tryz.underlying104 B.fl (n + 1) F_ (by kernel_rfl) m_ (pv e.node e.who) kl (by kernel_rfl) hkl ?_
      intro w5 mN gN
      replace h := (h.of_below ((Below.refl _ _).drew)).fl_ gN (Nat.le_refl _) mN (f_.set e.node e.who (c := 0) rfl)
      replace Bw := Bw.drew.grown gN (fun k hk => .inl (.inr <| .inr <| .inr <| .inl (Option.some.inj hk).symm))
      replace bE := bE.drew.grownB gN (fun q => by injection q with q; exact hEB.fl q)
      replace bP := bP.drew.grownB gN (fun q => by injection q with q; exact hPB.fl q)
      replace hz : w0 ≤ w5.heap.size := Nat.le_trans hz gN.size
      clear mN gN m_ f_
      go_frame
      clear cg p0 p1
      go_wp2_with fail
      go_ret
      refine ⟨?_, ⟨by rw [mayS_12 (e := e.abs) hk]; rw [if_pos (show e.abs.rep.status ≠ 200 ∧ e.abs.rep.status ≠ 206 from hs), ← setP_twice s.fl e.abs.node e.abs.who 2 0]; exact h.more (by omega), Bw⟩⟩
      rw [mayB_12 (e := e.abs) hk]
      show _ = Ending.returned (.bool (s.fl e.node e.who == 1))
      rw [← hx, ← (nbeq x 1)]
      rfl
    · by_cases s1 : e.rep.status = 200
      · have s1b : (e.rep.status != 200) = false := by rw [s1]; rfl
        go_wp2_with fail
        go_ret
        refine ⟨?_, ⟨by rw [mayS_12 (e := e.abs) hk]; rw [if_neg (show ¬ (e.abs.rep.status ≠ 200 ∧ e.abs.rep.status ≠ 206) from hs)]; exact h.more (by omega), Bw⟩⟩
        rw [mayB_12 (e := e.abs) hk]
        show _ = Ending.returned (.bool (s.fl e.node e.who == 1))
        rw [← hx, ← (nbeq x 1)]
        rfl
      · have s2 : e.rep.status = 206 := Classical.byContradiction fun q => hs ⟨s1, q⟩
        have s1b : (e.rep.status != 200) = true := bne_iff_ne.2 s1
        have s2b : (e.rep.status != 206) = false := by rw [s2]; rfl
        go_wp2_with fail
        go_ret
        refine ⟨?_, ⟨by rw [mayS_12 (e := e.abs) hk]; rw [if_neg (show ¬ (e.abs.rep.status ≠ 200 ∧ e.abs.rep.status ≠ 206) from hs)]; exact h.more (by omega), Bw⟩⟩
        rw [mayB_12 (e := e.abs) hk]
        show _ = Ending.returned (.bool (s.fl e.node e.who == 1))
        rw [← hx, ← (nbeq x 1)]
        rfl
  · have q11 : (e.kind == 11) = false := by rw [hk]; rfl
    have q12 : (e.kind == 12) = false := by rw [hk]; rfl
    have q13 : (e.kind == 13) = true := by rw [hk]; rfl
    go_upto_region 14 with fail
    clear c0 q11 q12 q13
    have c53 := bE.at_ (i := 53) (v := e.bytes.val) rfl
    by_cases hx2 : x = 2
    · have dx : ((x : Int) == 2) = true := by rw [hx2]; rfl
      go_wp2_with fail
      go_ret
      refine ⟨?_, ⟨by rw [mayS_13 (e := e.abs) hk]; exact h.more (by omega), Bw⟩⟩
      rw [mayB_13 (e := e.abs) hk]
      show _ = Ending.returned (.bool ((s.fl e.node e.who == 2) && decide (0 < e.bytes.l.length)))
      rw [← hx, hx2, ← nlt 0 e.bytes.l.length]
      rfl
    · have dx : ((x : Int) == 2) = false := by rw [show (2 : Int) = ((2 : Nat) : Int) from rfl, nbeq]; exact beq_eq_false_iff_ne.2 hx2
      go_wp2_with fail
      go_ret
      refine ⟨?_, ⟨by rw [mayS_13 (e := e.abs) hk]; exact h.more (by omega), Bw⟩⟩
      rw [mayB_13 (e := e.abs) hk]
      show _ = Ending.returned (.bool ((s.fl e.node e.who == 2) && decide (0 < e.bytes.l.length)))
      rw [← hx, beq_eq_false_iff_ne.2 hx2]
      rfl
  · have q11 : (e.kind == 11) = false := by rw [hk]; rfl
    have q12 : (e.kind == 12) = false := by rw [hk]; rfl
    have q13 : (e.kind == 13) = false := by rw [hk]; rfl
    go_upto_region 15 with fail
    clear c0 q11 q12 q13
    have cg := h.blk.at_ (i := 3) (v := .map (some B.fl)) rfl
    have p0 := bP.at_ (i := 0) (v := .int .i64 e.node) rfl
    have p1 := bP.at_ (i := 1) (v := .int .i64 e.who) rfl
    obtain ⟨F_, m_, f_⟩ := h.mf
    go_still_tail 5, (by kernel_rfl)
    change wpList _ _ _ _ _ w3.drew
    replace m_ : MapO w3.drew 121 B.fl n F_ := m_.of_block rfl
    with_reducible refine wpList_delete_O rfl (.tmp 88) (.tmp 89) 104 121 rfl placeKeyed Tryz.underlying104 B.fl n F_ (by kernel_rfl) m_ (pv e.node e.who) kl (by kernel_rfl) hkl ?_
    intro w4 mN gN
    replace h := (h.of_below ((Below.refl _ _).drew)).fl_ gN (Nat.le_refl _) mN (f_.set e.node e.who (c := 0) rfl)
    replace Bw := Bw.drew.grown gN (fun k hk => .inl (.inr <| .inr <| .inr <| .inl (Option.some.inj hk).symm))
    replace bE := bE.drew.grownB gN (fun q => by injection q with q; exact hEB.fl q)
    replace bP := bP.drew.grownB gN (fun q => by injection q with q; exact hPB.fl q)
    replace hz : w0 ≤ w4.heap.size := Nat.le_trans hz gN.size
    clear mN gN m_ f_
    go_frame
    clear cg p0 p1
    go_wp2_with fail
    go_ret
    refine ⟨?_, ⟨by rw [mayS_14 (e := e.abs) hk]; exact h.more (by omega), Bw⟩⟩
    rw [mayB_14 (e := e.abs) hk]
    show _ = Ending.returned (.bool (s.fl e.node e.who != 0))
    rw [← hx, ← (nbne x 0)]
    rfl
  · have q11 : (e.kind == 11) = false := by rw [hk]; rfl
    have q12 : (e.kind == 12) = false := by rw [hk]; rfl
    have q13 : (e.kind == 13) = false := by rw [hk]; rfl
    go_upto_region 15 with fail
    clear c0 q11 q12 q13
    have cg := h.blk.at_ (i := 3) (v := .map (some B.fl)) rfl
    have p0 := bP.at_ (i := 0) (v := .int .i64 e.node) rfl
    have p1 := bP.at_ (i := 1) (v := .int .i64 e.who) rfl
    obtain ⟨F_, m_, f_⟩ := h.mf
    go_still_tail 5, (by kernel_rfl)
    change wpList _ _ _ _ _ w3.drew
    replace m_ : MapO w3.drew 121 B.fl n F_ := m_.of_block rfl
    with_reducible refine wpList_delete_O rfl (.tmp 88) (.tmp 89) 104 121 rfl placeKeyed Tryz.underlying104 B.fl n F_ (by kernel_rfl) m_ (pv e.node e.who) kl (by kernel_rfl) hkl ?_
    intro w4 mN gN
    replace h := (h.of_below ((Below.refl _ _).drew)).fl_ gN (Nat.le_refl _) mN (f_.set e.node e.who (c := 0) rfl)
    replace Bw := Bw.drew.grown gN (fun k hk => .inl (.inr <| .inr <| .inr <| .inl (Option.some.inj hk).symm))
    replace bE := bE.drew.grownB gN (fun q => by injection q with q; exact hEB.fl q)
    replace bP := bP.drew.grownB gN (fun q => by injection q with q; exact hPB.fl q)
    replace hz : w0 ≤ w4.heap.size := Nat.le_trans hz gN.size
    clear mN gN m_ f_
    go_frame
    clear cg p0 p1
    go_wp2_with fail
    go_ret
    refine ⟨?_, ⟨by rw [mayS_15 (e := e.abs) hk]; exact h.more (by omega), Bw⟩⟩
    rw [mayB_15 (e := e.abs) hk]
    show _ = Ending.returned (.bool (s.fl e.node e.who != 0))
    rw [← hx, ← (nbne x 0)]
    rfl
end Go.Proofs.YtiokbebodblhaaaGreatDoor
