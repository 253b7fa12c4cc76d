/-
  Walk: (*state).may: whether an event may happen; then it did. Printed by stgen.py.
-/
import Derived.Test.YtiokbebodblhaaaGreatDoorTraceAw
import Derived.Test.YtiokbebodblhaaaGreatDoorTraceFl
import Derived.Test.YtiokbebodblhaaaGreatDoorTTx
import Derived.Test.YtiokbebodblhaaaGreatDoorTMap
import Derived.Deep.Cut
import Derived.StillTailTactics
namespace Go.Proofs.YtiokbebodblhaaaGreatDoor
open Go.RowKit Go.Maps Go.WideMaps TraceP
attribute [local go_sem] Row.val
theorem setO_twice (f : Txt → Nat) (o : Txt) (x y : Nat) : setO (setO f o x) o y = setO f o y := by
  funext c
  unfold setO
  by_cases h : c = o
  · rw [if_pos h, if_pos h]
  · rw [if_neg h, if_neg h, if_neg h]
set_option maxRecDepth 100000 in
set_option maxHeartbeats 3200000 in
theorem may_calls (w : World) (w0 n : Nat) (B : StB) (s : PSt) (e : EvtR) (h0 : StOK w0 w B n s) (ho : EvtOK w e) (hk0 : 1 ≤ e.kind ∧ e.kind ≤ 16) (hob : e.object.length ≤ 9223372036854775807) (hz0 : w0 ≤ w.heap.size) (hn : n < 1000000) :
    Calls Tryz.prog 51 #[.pointer (some ⟨B.g, 0, none⟩), .agg e.cells.toArray] w fun r w' => r = .returned (.bool (mayB s e.abs)) ∧ May w0 B (n + 2) (mayS s e.abs) w w' := by
  have bE := Blk.new w 45 e.cells.toArray
  have Bw := (Kept.refl (StF B) w).alloc (.cells e.cells.toArray 45)
  have h := h0.alloc (.cells e.cells.toArray 45)
  have hz : w0 ≤ (w.alloc (.cells e.cells.toArray 45)).heap.size := by simp; omega
  have Bo := below_new w (.cells e.cells.toArray 45)
  have hEB := h0.apart (Nat.le_refl _)
  obtain ⟨kl, hkl⟩ := key_str hob
  have hkn := key_int ho.node
  go_enter Tryz.func51, Tryz.ntmps51
  go_upto_region 1 with fail
  revert bE Bw h hz Bo
  generalize w.alloc (.cells e.cells.toArray 45) = w1
  intro bE Bw h hz Bo
  obtain ⟨gE, hgE⟩ : ∃ g, g = w.heap.size := ⟨_, rfl⟩
  rw [← hgE] at bE hEB ⊢
  clear hgE h0
  have c0 := bE.at_ (i := 0) (v := .int .i64 e.kind) rfl
  have K16 : e.kind = 1 ∨ e.kind = 2 ∨ e.kind = 3 ∨ e.kind = 4 ∨ e.kind = 5 ∨ e.kind = 6 ∨ e.kind = 7 ∨ e.kind = 8 ∨ e.kind = 9 ∨ e.kind = 10 ∨ e.kind = 11 ∨ e.kind = 12 ∨ e.kind = 13 ∨ e.kind = 14 ∨ e.kind = 15 ∨ e.kind = 16 := by omega
  clear hk0
  rcases K16 with hk | hk | hk | hk | hk | hk | hk | hk | hk | hk | hk | hk | hk | hk | hk | hk
  · have q1 : (e.kind == 1) = true := by rw [hk]; rfl
    have c53 := bE.at_ (i := 53) (v := e.bytes.val) rfl
    go_upto_region 4 with fail
    clear c0 q1 c53
    have cg := h.blk.at_ (i := 1) (v := .map (some B.o)) rfl
    have c4 := bE.at_ (i := 4) (v := .string (bstr e.object)) rfl
    obtain ⟨F_, m_, f_⟩ := h.mo
    go_still_tail 6, (by kernel_rfl)
    change wpList _ _ _ _ _ w1.drew
    replace m_ : MapO w1.drew 9 B.o n F_ := m_.of_block rfl
    with_reducible refine wpList_store_O rfl (.tmp 18) (.tmp 20) (.const (.int .i64 1)) 103 9 rfl strKeyed Tryz.underlying103 B.o n F_ (by kernel_rfl) m_ (by omega) (.string (bstr e.object)) 1 kl (by kernel_rfl) (by kernel_rfl) hkl (by unfold I64; decide) ?_
    intro w2 mN gN
    replace h := (h.of_below ((Below.refl _ _).drew)).obj_ gN (Nat.le_succ _) mN (f_.set e.object (c := 1) rfl)
    replace Bw := Bw.drew.grown gN (fun k hk => .inl (.inr <| .inl (Option.some.inj hk).symm))
    replace bE := bE.drew.grownB gN (fun q => by injection q with q; exact hEB.o q)
    replace hz : w0 ≤ w2.heap.size := Nat.le_trans hz gN.size
    clear mN gN m_ f_
    go_frame
    clear cg c4
    have c19 := bE.at_ (i := 19) (v := .int .i64 e.met.len) rfl
    have c20 := bE.at_ (i := 20) (v := .int .i64 e.met.have_) rfl
    by_cases hl : e.met.len = -1
    · have l1 : (e.met.len == -1) = true := by rw [hl]; rfl
      go_upto_region 6 with fail
      clear c19 c20
      have cg := h.blk.at_ (i := 1) (v := .map (some B.o)) rfl
      have c4 := bE.at_ (i := 4) (v := .string (bstr e.object)) rfl
      obtain ⟨F_, m_, f_⟩ := h.mo
      go_still_tail 6, (by kernel_rfl)
      change wpList _ _ _ _ _ w2.drew
      replace m_ : MapO w2.drew 9 B.o (n + 1) F_ := m_.of_block rfl
      with_reducible refine wpList_store_O rfl (.tmp 28) (.tmp 30) (.const (.int .i64 2)) 103 9 rfl strKeyed Tryz.underlying103 B.o (n + 1) F_ (by kernel_rfl) m_ (by omega) (.string (bstr e.object)) 2 kl (by kernel_rfl) (by kernel_rfl) hkl (by unfold I64; decide) ?_
      intro w3 mN gN
      replace h := (h.of_below ((Below.refl _ _).drew)).obj_ gN (Nat.le_succ _) mN (f_.set e.object (c := 2) rfl)
      replace Bw := Bw.drew.grown gN (fun k hk => .inl (.inr <| .inl (Option.some.inj hk).symm))
      replace bE := bE.drew.grownB gN (fun q => by injection q with q; exact hEB.o q)
      replace hz : w0 ≤ w3.heap.size := Nat.le_trans hz gN.size
      clear mN gN m_ f_
      go_frame
      clear cg c4
      have c19 := bE.at_ (i := 19) (v := .int .i64 e.met.len) rfl
      have c20 := bE.at_ (i := 20) (v := .int .i64 e.met.have_) rfl
      replace h : StOK w0 w3 B (n + 2) (mayS s e.abs) := by
        rw [mayS_1 (e := e.abs) hk, if_pos (show e.abs.met.len = -1 from hl), ← setO_twice s.obj e.abs.object 1 2]
        exact h
      by_cases hv : e.met.have_ = (e.bytes.l.length : Int)
      · have v1 : (e.met.have_ == (e.bytes.l.length : Int)) = true := by rw [hv]; exact beq_iff_eq.2 rfl
        have v2 : (e.abs.met.have_ == (e.abs.bytes.length : Int)) = true := v1
        go_wp2_with fail
        go_ret
        exact ⟨by rw [mayB_1 (e := e.abs) hk, v2, show (e.abs.met.len == -1) = true from l1]; rfl, ⟨h, Bw⟩⟩
      · have v1 : (e.met.have_ == (e.bytes.l.length : Int)) = false := beq_eq_false_iff_ne.2 hv
        have v2 : (e.abs.met.have_ == (e.abs.bytes.length : Int)) = false := v1
        go_wp2_with fail
        go_ret
        exact ⟨by rw [mayB_1 (e := e.abs) hk, v2, show (e.abs.met.len == -1) = true from l1]; rfl, ⟨h, Bw⟩⟩
    · have l1 : (e.met.len == -1) = false := beq_eq_false_iff_ne.2 hl
      replace h : StOK w0 w2 B (n + 2) (mayS s e.abs) := by
        rw [mayS_1 (e := e.abs) hk, if_neg (show ¬ e.abs.met.len = -1 from hl)]
        exact h.more (by omega)
      by_cases hv : e.met.have_ = (e.bytes.l.length : Int)
      · have v1 : (e.met.have_ == (e.bytes.l.length : Int)) = true := by rw [hv]; exact beq_iff_eq.2 rfl
        have v2 : (e.abs.met.have_ == (e.abs.bytes.length : Int)) = true := v1
        by_cases hw : e.met.len = (e.bytes.l.length : Int)
        · have u1 : (e.met.len == (e.bytes.l.length : Int)) = true := by rw [hw]; exact beq_iff_eq.2 rfl
          have u2 : (e.abs.met.len == (e.abs.bytes.length : Int)) = true := u1
          go_wp2_with fail
          go_ret
          exact ⟨by rw [mayB_1 (e := e.abs) hk, v2, show (e.abs.met.len == -1) = false from l1, u2]; rfl, ⟨h, Bw⟩⟩
        · have u1 : (e.met.len == (e.bytes.l.length : Int)) = false := beq_eq_false_iff_ne.2 hw
          have u2 : (e.abs.met.len == (e.abs.bytes.length : Int)) = false := u1
          go_wp2_with fail
          go_ret
          exact ⟨by rw [mayB_1 (e := e.abs) hk, v2, show (e.abs.met.len == -1) = false from l1, u2]; rfl, ⟨h, Bw⟩⟩
      · have v1 : (e.met.have_ == (e.bytes.l.length : Int)) = false := beq_eq_false_iff_ne.2 hv
        have v2 : (e.abs.met.have_ == (e.abs.bytes.length : Int)) = false := v1
        go_wp2_with fail
        go_ret
        exact ⟨by rw [mayB_1 (e := e.abs) hk, v2, show (e.abs.met.len == -1) = false from l1]; rfl, ⟨h, Bw⟩⟩
  · have q1 : (e.kind == 1) = false := by rw [hk]; rfl
    have q2 : (e.kind == 2) = true := by rw [hk]; rfl
    go_upto_region 9 with fail
    clear c0 q1 q2
    have cg := h.blk.at_ (i := 1) (v := .map (some B.o)) rfl
    have c4 := bE.at_ (i := 4) (v := .string (bstr e.object)) rfl
    have c53 := bE.at_ (i := 53) (v := e.bytes.val) rfl
    obtain ⟨F_, m_, f_⟩ := h.mo
    go_still_tail 6, (by kernel_rfl)
    change wpList _ _ _ _ _ w1.drew
    replace m_ : MapO w1.drew 9 B.o n F_ := m_.of_block rfl
    with_reducible refine wpList_look_O rfl (.tmp 54) (.tmp 56) 103 9 rfl strKeyed Tryz.underlying103 B.o n F_ (by kernel_rfl) m_ (.string (bstr e.object)) kl (by kernel_rfl) hkl ?_
    rw [f_ e.object]
    clear m_ f_
    go_frame
    obtain ⟨x, hx⟩ : ∃ x, x = s.obj e.object := ⟨_, rfl⟩
    rw [← hx]
    by_cases hx2 : x = 2
    · have dx : ((x : Int) == 2) = true := by rw [hx2]; rfl
      go_wp2_with fail
      go_ret
      refine ⟨?_, ⟨by rw [mayS_2 (e := e.abs) hk]; exact (h.of_below ((Below.refl _ _).drew)).more (by omega), Bw.drew⟩⟩
      rw [mayB_2 (e := e.abs) hk]
      show _ = Ending.returned (.bool ((s.obj e.object == 2) && decide (0 < e.bytes.l.length)))
      rw [← hx, hx2, ← nlt 0 e.bytes.l.length]
      rfl
    · have dx : ((x : Int) == 2) = false := by rw [show (2 : Int) = ((2 : Nat) : Int) from rfl, nbeq]; exact beq_eq_false_iff_ne.2 hx2
      go_wp2_with fail
      go_ret
      refine ⟨?_, ⟨by rw [mayS_2 (e := e.abs) hk]; exact (h.of_below ((Below.refl _ _).drew)).more (by omega), Bw.drew⟩⟩
      rw [mayB_2 (e := e.abs) hk]
      show _ = Ending.returned (.bool ((s.obj e.object == 2) && decide (0 < e.bytes.l.length)))
      rw [← hx, beq_eq_false_iff_ne.2 hx2]
      rfl
  · have q1 : (e.kind == 1) = false := by rw [hk]; rfl
    have q2 : (e.kind == 2) = false := by rw [hk]; rfl
    have q3 : (e.kind == 3) = true := by rw [hk]; rfl
    go_upto_region 11 with fail
    clear c0 q1 q2 q3
    have cg := h.blk.at_ (i := 1) (v := .map (some B.o)) rfl
    have c4 := bE.at_ (i := 4) (v := .string (bstr e.object)) rfl
    obtain ⟨F_, m_, f_⟩ := h.mo
    go_still_tail 6, (by kernel_rfl)
    change wpList _ _ _ _ _ w1.drew
    replace m_ : MapO w1.drew 9 B.o n F_ := m_.of_block rfl
    with_reducible refine wpList_look_O rfl (.tmp 70) (.tmp 72) 103 9 rfl strKeyed Tryz.underlying103 B.o n F_ (by kernel_rfl) m_ (.string (bstr e.object)) kl (by kernel_rfl) hkl ?_
    rw [f_ e.object]
    clear m_ f_
    go_frame
    clear cg c4
    obtain ⟨x, hx⟩ : ∃ x, x = s.obj e.object := ⟨_, rfl⟩
    rw [← hx]
    go_upto_region 12 with fail
    have h_ := h.of_below ((Below.refl _ _).drew)
    have Bw_ := Bw.drew
    have bE_ := bE.drew
    have hz_ : w0 ≤ w1.drew.heap.size := hz
    clear h Bw bE hz
    revert h_ Bw_ bE_ hz_
    generalize w1.drew = w2
    intro h Bw bE hz
    have cg := h.blk.at_ (i := 1) (v := .map (some B.o)) rfl
    have c4 := bE.at_ (i := 4) (v := .string (bstr e.object)) rfl
    obtain ⟨F_, m_, f_⟩ := h.mo
    go_still_tail 6, (by kernel_rfl)
    change wpList _ _ _ _ _ w2.drew
    replace m_ : MapO w2.drew 9 B.o n F_ := m_.of_block rfl
    with_reducible refine wpList_store_O rfl (.tmp 77) (.tmp 79) (.const (.int .i64 1)) 103 9 rfl strKeyed Tryz.underlying103 B.o n F_ (by kernel_rfl) m_ (by omega) (.string (bstr e.object)) 1 kl (by kernel_rfl) (by kernel_rfl) hkl (by unfold I64; decide) ?_
    intro w3 mN gN
    replace h := (h.of_below ((Below.refl _ _).drew)).obj_ gN (Nat.le_succ _) mN (f_.set e.object (c := 1) rfl)
    replace Bw := Bw.drew.grown gN (fun k hk => .inl (.inr <| .inl (Option.some.inj hk).symm))
    replace bE := bE.drew.grownB gN (fun q => by injection q with q; exact hEB.o q)
    replace hz : w0 ≤ w3.heap.size := Nat.le_trans hz gN.size
    clear mN gN m_ f_
    go_frame
    clear cg c4
    go_wp2_with fail
    go_ret
    refine ⟨?_, ⟨by rw [mayS_3 (e := e.abs) hk]; exact h.more (by omega), Bw⟩⟩
    rw [mayB_3 (e := e.abs) hk]
    show _ = Ending.returned (.bool (s.obj e.object == 2))
    rw [← hx, ← (nbeq x 2)]
    rfl
  · have q1 : (e.kind == 1) = false := by rw [hk]; rfl
    have q2 : (e.kind == 2) = false := by rw [hk]; rfl
    have q3 : (e.kind == 3) = false := by rw [hk]; rfl
    have q4 : (e.kind == 4) = true := by rw [hk]; rfl
    go_upto_region 15 with fail
    clear c0 q1 q2 q3 q4
    have cg := h.blk.at_ (i := 1) (v := .map (some B.o)) rfl
    have c4 := bE.at_ (i := 4) (v := .string (bstr e.object)) rfl
    obtain ⟨F_, m_, f_⟩ := h.mo
    go_still_tail 6, (by kernel_rfl)
    change wpList _ _ _ _ _ w1.drew
    replace m_ : MapO w1.drew 9 B.o n F_ := m_.of_block rfl
    with_reducible refine wpList_look_O rfl (.tmp 87) (.tmp 89) 103 9 rfl strKeyed Tryz.underlying103 B.o n F_ (by kernel_rfl) m_ (.string (bstr e.object)) kl (by kernel_rfl) hkl ?_
    rw [f_ e.object]
    clear m_ f_
    go_frame
    clear cg c4
    obtain ⟨x, hx⟩ : ∃ x, x = s.obj e.object := ⟨_, rfl⟩
    rw [← hx]
    go_upto_region 16 with fail
    have h_ := h.of_below ((Below.refl _ _).drew)
    have Bw_ := Bw.drew
    have bE_ := bE.drew
    have hz_ : w0 ≤ w1.drew.heap.size := hz
    clear h Bw bE hz
    revert h_ Bw_ bE_ hz_
    generalize w1.drew = w2
    intro h Bw bE hz
    have cg := h.blk.at_ (i := 1) (v := .map (some B.o)) rfl
    have c4 := bE.at_ (i := 4) (v := .string (bstr e.object)) rfl
    obtain ⟨F_, m_, f_⟩ := h.mo
    go_still_tail 6, (by kernel_rfl)
    change wpList _ _ _ _ _ w2.drew
    replace m_ : MapO w2.drew 9 B.o n F_ := m_.of_block rfl
    with_reducible refine wpList_delete_O rfl (.tmp 94) (.tmp 96) 103 9 rfl strKeyed Tryz.underlying103 B.o n F_ (by kernel_rfl) m_ (.string (bstr e.object)) kl (by kernel_rfl) hkl ?_
    intro w3 mN gN
    replace h := (h.of_below ((Below.refl _ _).drew)).obj_ gN (Nat.le_refl _) mN (f_.set e.object (c := 0) rfl)
    replace Bw := Bw.drew.grown gN (fun k hk => .inl (.inr <| .inl (Option.some.inj hk).symm))
    replace bE := bE.drew.grownB gN (fun q => by injection q with q; exact hEB.o q)
    replace hz : w0 ≤ w3.heap.size := Nat.le_trans hz gN.size
    clear mN gN m_ f_
    go_frame
    clear cg c4
    go_wp2_with fail
    go_ret
    refine ⟨?_, ⟨by rw [mayS_4 (e := e.abs) hk]; exact h.more (by omega), Bw⟩⟩
    rw [mayB_4 (e := e.abs) hk]
    show _ = Ending.returned (.bool (s.obj e.object != 0))
    rw [← hx, ← (nbne x 0)]
    rfl
  · have q1 : (e.kind == 1) = false := by rw [hk]; rfl
    have q2 : (e.kind == 2) = false := by rw [hk]; rfl
    have q3 : (e.kind == 3) = false := by rw [hk]; rfl
    have q4 : (e.kind == 4) = false := by rw [hk]; rfl
    have q5 : (e.kind == 5) = true := by rw [hk]; rfl
    go_upto_region 19 with fail
    clear c0 q1 q2 q3 q4 q5
    have c54 := bE.at_ (i := 54) (v := e.keys.val) rfl
    go_wp2_with fail
    go_ret
    refine ⟨?_, ⟨by rw [mayS_5 (e := e.abs) hk]; exact h.more (by omega), Bw⟩⟩
    rw [mayB_5 (e := e.abs) hk]
    show _ = Ending.returned (.bool (decide (0 < e.keys.l.length)))
    rw [← nlt 0 e.keys.l.length]
    rfl
  · have q1 : (e.kind == 1) = false := by rw [hk]; rfl
    have q2 : (e.kind == 2) = false := by rw [hk]; rfl
    have q3 : (e.kind == 3) = false := by rw [hk]; rfl
    have q4 : (e.kind == 4) = false := by rw [hk]; rfl
    have q5 : (e.kind == 5) = false := by rw [hk]; rfl
    have q16 : (e.kind == 16) = false := by rw [hk]; rfl
    have q11 : (e.kind == 11) = false := by rw [hk]; rfl
    have q12 : (e.kind == 12) = false := by rw [hk]; rfl
    have q13 : (e.kind == 13) = false := by rw [hk]; rfl
    have q14 : (e.kind == 14) = false := by rw [hk]; rfl
    have q15 : (e.kind == 15) = false := by rw [hk]; rfl
    go_upto_region 31 with fail
    clear c0 q1 q2 q3 q4 q5 q16 q11 q12 q13 q14 q15
    have bE' : w1.heap[gE]? = some (Obj.cells e.cells.toArray 45) := bE
    have CC := answers_calls w1 w0 n B s e h (ho.below Bo) (by omega) hz hn
    with_reducible refine wp_region_lit ?_
    with_reducible refine wpList_cutAt 1 ?_
    simp only [List.take_succ_cons, List.take_zero, List.drop_succ_cons, List.drop_zero]
    repeat (first | go_values | go_skip | go_guarded | go_step | go_upon)
    with_reducible refine CutQ.go_ ?_
    with_reducible refine wpList_load_row rfl 45 (.tmp 3) rfl gE (by kernel_rfl) 45 e.cells.toArray (0, 0) _ bE' Tryz.underlying45 (by kernel_rfl) (by kernel_rfl) ?_
    go_frame
    clear bE'
    go_wp2_with (go_at_call 105; refine CC.mono ?_; rintro _ w2 ⟨rfl, M2⟩; clear CC)
    go_ret
    exact ⟨rfl, ⟨M2.ok, Bw.trans M2.kp⟩⟩
  · have q1 : (e.kind == 1) = false := by rw [hk]; rfl
    have q2 : (e.kind == 2) = false := by rw [hk]; rfl
    have q3 : (e.kind == 3) = false := by rw [hk]; rfl
    have q4 : (e.kind == 4) = false := by rw [hk]; rfl
    have q5 : (e.kind == 5) = false := by rw [hk]; rfl
    have q16 : (e.kind == 16) = false := by rw [hk]; rfl
    have q11 : (e.kind == 11) = false := by rw [hk]; rfl
    have q12 : (e.kind == 12) = false := by rw [hk]; rfl
    have q13 : (e.kind == 13) = false := by rw [hk]; rfl
    have q14 : (e.kind == 14) = false := by rw [hk]; rfl
    have q15 : (e.kind == 15) = false := by rw [hk]; rfl
    go_upto_region 31 with fail
    clear c0 q1 q2 q3 q4 q5 q16 q11 q12 q13 q14 q15
    have bE' : w1.heap[gE]? = some (Obj.cells e.cells.toArray 45) := bE
    have CC := answers_calls w1 w0 n B s e h (ho.below Bo) (by omega) hz hn
    with_reducible refine wp_region_lit ?_
    with_reducible refine wpList_cutAt 1 ?_
    simp only [List.take_succ_cons, List.take_zero, List.drop_succ_cons, List.drop_zero]
    repeat (first | go_values | go_skip | go_guarded | go_step | go_upon)
    with_reducible refine CutQ.go_ ?_
    with_reducible refine wpList_load_row rfl 45 (.tmp 3) rfl gE (by kernel_rfl) 45 e.cells.toArray (0, 0) _ bE' Tryz.underlying45 (by kernel_rfl) (by kernel_rfl) ?_
    go_frame
    clear bE'
    go_wp2_with (go_at_call 105; refine CC.mono ?_; rintro _ w2 ⟨rfl, M2⟩; clear CC)
    go_ret
    exact ⟨rfl, ⟨M2.ok, Bw.trans M2.kp⟩⟩
  · have q1 : (e.kind == 1) = false := by rw [hk]; rfl
    have q2 : (e.kind == 2) = false := by rw [hk]; rfl
    have q3 : (e.kind == 3) = false := by rw [hk]; rfl
    have q4 : (e.kind == 4) = false := by rw [hk]; rfl
    have q5 : (e.kind == 5) = false := by rw [hk]; rfl
    have q16 : (e.kind == 16) = false := by rw [hk]; rfl
    have q11 : (e.kind == 11) = false := by rw [hk]; rfl
    have q12 : (e.kind == 12) = false := by rw [hk]; rfl
    have q13 : (e.kind == 13) = false := by rw [hk]; rfl
    have q14 : (e.kind == 14) = false := by rw [hk]; rfl
    have q15 : (e.kind == 15) = false := by rw [hk]; rfl
    go_upto_region 31 with fail
    clear c0 q1 q2 q3 q4 q5 q16 q11 q12 q13 q14 q15
    have bE' : w1.heap[gE]? = some (Obj.cells e.cells.toArray 45) := bE
    have CC := answers_calls w1 w0 n B s e h (ho.below Bo) (by omega) hz hn
    with_reducible refine wp_region_lit ?_
    with_reducible refine wpList_cutAt 1 ?_
    simp only [List.take_succ_cons, List.take_zero, List.drop_succ_cons, List.drop_zero]
    repeat (first | go_values | go_skip | go_guarded | go_step | go_upon)
    with_reducible refine CutQ.go_ ?_
    with_reducible refine wpList_load_row rfl 45 (.tmp 3) rfl gE (by kernel_rfl) 45 e.cells.toArray (0, 0) _ bE' Tryz.underlying45 (by kernel_rfl) (by kernel_rfl) ?_
    go_frame
    clear bE'
    go_wp2_with (go_at_call 105; refine CC.mono ?_; rintro _ w2 ⟨rfl, M2⟩; clear CC)
    go_ret
    exact ⟨rfl, ⟨M2.ok, Bw.trans M2.kp⟩⟩
  · have q1 : (e.kind == 1) = false := by rw [hk]; rfl
    have q2 : (e.kind == 2) = false := by rw [hk]; rfl
    have q3 : (e.kind == 3) = false := by rw [hk]; rfl
    have q4 : (e.kind == 4) = false := by rw [hk]; rfl
    have q5 : (e.kind == 5) = false := by rw [hk]; rfl
    have q16 : (e.kind == 16) = false := by rw [hk]; rfl
    have q11 : (e.kind == 11) = false := by rw [hk]; rfl
    have q12 : (e.kind == 12) = false := by rw [hk]; rfl
    have q13 : (e.kind == 13) = false := by rw [hk]; rfl
    have q14 : (e.kind == 14) = false := by rw [hk]; rfl
    have q15 : (e.kind == 15) = false := by rw [hk]; rfl
    go_upto_region 31 with fail
    clear c0 q1 q2 q3 q4 q5 q16 q11 q12 q13 q14 q15
    have bE' : w1.heap[gE]? = some (Obj.cells e.cells.toArray 45) := bE
    have CC := answers_calls w1 w0 n B s e h (ho.below Bo) (by omega) hz hn
    with_reducible refine wp_region_lit ?_
    with_reducible refine wpList_cutAt 1 ?_
    simp only [List.take_succ_cons, List.take_zero, List.drop_succ_cons, List.drop_zero]
    repeat (first | go_values | go_skip | go_guarded | go_step | go_upon)
    with_reducible refine CutQ.go_ ?_
    with_reducible refine wpList_load_row rfl 45 (.tmp 3) rfl gE (by kernel_rfl) 45 e.cells.toArray (0, 0) _ bE' Tryz.underlying45 (by kernel_rfl) (by kernel_rfl) ?_
    go_frame
    clear bE'
    go_wp2_with (go_at_call 105; refine CC.mono ?_; rintro _ w2 ⟨rfl, M2⟩; clear CC)
    go_ret
    exact ⟨rfl, ⟨M2.ok, Bw.trans M2.kp⟩⟩
  · have q1 : (e.kind == 1) = false := by rw [hk]; rfl
    have q2 : (e.kind == 2) = false := by rw [hk]; rfl
    have q3 : (e.kind == 3) = false := by rw [hk]; rfl
    have q4 : (e.kind == 4) = false := by rw [hk]; rfl
    have q5 : (e.kind == 5) = false := by rw [hk]; rfl
    have q16 : (e.kind == 16) = false := by rw [hk]; rfl
    have q11 : (e.kind == 11) = false := by rw [hk]; rfl
    have q12 : (e.kind == 12) = false := by rw [hk]; rfl
    have q13 : (e.kind == 13) = false := by rw [hk]; rfl
    have q14 : (e.kind == 14) = false := by rw [hk]; rfl
    have q15 : (e.kind == 15) = false := by rw [hk]; rfl
    go_upto_region 31 with fail
    clear c0 q1 q2 q3 q4 q5 q16 q11 q12 q13 q14 q15
    have bE' : w1.heap[gE]? = some (Obj.cells e.cells.toArray 45) := bE
    have CC := answers_calls w1 w0 n B s e h (ho.below Bo) (by omega) hz hn
    with_reducible refine wp_region_lit ?_
    with_reducible refine wpList_cutAt 1 ?_
    simp only [List.take_succ_cons, List.take_zero, List.drop_succ_cons, List.drop_zero]
    repeat (first | go_values | go_skip | go_guarded | go_step | go_upon)
    with_reducible refine CutQ.go_ ?_
    with_reducible refine wpList_load_row rfl 45 (.tmp 3) rfl gE (by kernel_rfl) 45 e.cells.toArray (0, 0) _ bE' Tryz.underlying45 (by kernel_rfl) (by kernel_rfl) ?_
    go_frame
    clear bE'
    go_wp2_with (go_at_call 105; refine CC.mono ?_; rintro _ w2 ⟨rfl, M2⟩; clear CC)
    go_ret
    exact ⟨rfl, ⟨M2.ok, Bw.trans M2.kp⟩⟩
  · have q1 : (e.kind == 1) = false := by rw [hk]; rfl
    have q2 : (e.kind == 2) = false := by rw [hk]; rfl
    have q3 : (e.kind == 3) = false := by rw [hk]; rfl
    have q4 : (e.kind == 4) = false := by rw [hk]; rfl
    have q5 : (e.kind == 5) = false := by rw [hk]; rfl
    have q16 : (e.kind == 16) = false := by rw [hk]; rfl
    have q11 : (e.kind == 11) = true := by rw [hk]; rfl
    go_upto_region 30 with fail
    clear c0 q1 q2 q3 q4 q5 q16 q11
    have bE' : w1.heap[gE]? = some (Obj.cells e.cells.toArray 45) := bE
    have CC := flies_calls w1 w0 n B s e h (ho.below Bo) (by omega) hz hn
    with_reducible refine wp_region_lit ?_
    with_reducible refine wpList_cutAt 1 ?_
    simp only [List.take_succ_cons, List.take_zero, List.drop_succ_cons, List.drop_zero]
    repeat (first | go_values | go_skip | go_guarded | go_step | go_upon)
    with_reducible refine CutQ.go_ ?_
    with_reducible refine wpList_load_row rfl 45 (.tmp 3) rfl gE (by kernel_rfl) 45 e.cells.toArray (0, 0) _ bE' Tryz.underlying45 (by kernel_rfl) (by kernel_rfl) ?_
    go_frame
    clear bE'
    go_wp2_with (go_at_call 104; refine CC.mono ?_; rintro _ w2 ⟨rfl, M2⟩; clear CC)
    go_ret
    exact ⟨rfl, ⟨M2.ok, Bw.trans M2.kp⟩⟩
  · have q1 : (e.kind == 1) = false := by rw [hk]; rfl
    have q2 : (e.kind == 2) = false := by rw [hk]; rfl
    have q3 : (e.kind == 3) = false := by rw [hk]; rfl
    have q4 : (e.kind == 4) = false := by rw [hk]; rfl
    have q5 : (e.kind == 5) = false := by rw [hk]; rfl
    have q16 : (e.kind == 16) = false := by rw [hk]; rfl
    have q11 : (e.kind == 11) = false := by rw [hk]; rfl
    have q12 : (e.kind == 12) = true := by rw [hk]; rfl
    go_upto_region 30 with fail
    clear c0 q1 q2 q3 q4 q5 q16 q11 q12
    have bE' : w1.heap[gE]? = some (Obj.cells e.cells.toArray 45) := bE
    have CC := flies_calls w1 w0 n B s e h (ho.below Bo) (by omega) hz hn
    with_reducible refine wp_region_lit ?_
    with_reducible refine wpList_cutAt 1 ?_
    simp only [List.take_succ_cons, List.take_zero, List.drop_succ_cons, List.drop_zero]
    repeat (first | go_values | go_skip | go_guarded | go_step | go_upon)
    with_reducible refine CutQ.go_ ?_
    with_reducible refine wpList_load_row rfl 45 (.tmp 3) rfl gE (by kernel_rfl) 45 e.cells.toArray (0, 0) _ bE' Tryz.underlying45 (by kernel_rfl) (by kernel_rfl) ?_
    go_frame
    clear bE'
    go_wp2_with (go_at_call 104; refine CC.mono ?_; rintro _ w2 ⟨rfl, M2⟩; clear CC)
    go_ret
    exact ⟨rfl, ⟨M2.ok, Bw.trans M2.kp⟩⟩
  · have q1 : (e.kind == 1) = false := by rw [hk]; rfl
    have q2 : (e.kind == 2) = false := by rw [hk]; rfl
    have q3 : (e.kind == 3) = false := by rw [hk]; rfl
    have q4 : (e.kind == 4) = false := by rw [hk]; rfl
    have q5 : (e.kind == 5) = false := by rw [hk]; rfl
    have q16 : (e.kind == 16) = false := by rw [hk]; rfl
    have q11 : (e.kind == 11) = false := by rw [hk]; rfl
    have q12 : (e.kind == 12) = false := by rw [hk]; rfl
    have q13 : (e.kind == 13) = true := by rw [hk]; rfl
    go_upto_region 30 with fail
    clear c0 q1 q2 q3 q4 q5 q16 q11 q12 q13
    have bE' : w1.heap[gE]? = some (Obj.cells e.cells.toArray 45) := bE
    have CC := flies_calls w1 w0 n B s e h (ho.below Bo) (by omega) hz hn
    with_reducible refine wp_region_lit ?_
    with_reducible refine wpList_cutAt 1 ?_
    simp only [List.take_succ_cons, List.take_zero, List.drop_succ_cons, List.drop_zero]
    repeat (first | go_values | go_skip | go_guarded | go_step | go_upon)
    with_reducible refine CutQ.go_ ?_
    with_reducible refine wpList_load_row rfl 45 (.tmp 3) rfl gE (by kernel_rfl) 45 e.cells.toArray (0, 0) _ bE' Tryz.underlying45 (by kernel_rfl) (by kernel_rfl) ?_
    go_frame
    clear bE'
    go_wp2_with (go_at_call 104; refine CC.mono ?_; rintro _ w2 ⟨rfl, M2⟩; clear CC)
    go_ret
    exact ⟨rfl, ⟨M2.ok, Bw.trans M2.kp⟩⟩
  · have q1 : (e.kind == 1) = false := by rw [hk]; rfl
    have q2 : (e.kind == 2) = false := by rw [hk]; rfl
    have q3 : (e.kind == 3) = false := by rw [hk]; rfl
    have q4 : (e.kind == 4) = false := by rw [hk]; rfl
    have q5 : (e.kind == 5) = false := by rw [hk]; rfl
    have q16 : (e.kind == 16) = false := by rw [hk]; rfl
    have q11 : (e.kind == 11) = false := by rw [hk]; rfl
    have q12 : (e.kind == 12) = false := by rw [hk]; rfl
    have q13 : (e.kind == 13) = false := by rw [hk]; rfl
    have q14 : (e.kind == 14) = true := by rw [hk]; rfl
    go_upto_region 30 with fail
    clear c0 q1 q2 q3 q4 q5 q16 q11 q12 q13 q14
    have bE' : w1.heap[gE]? = some (Obj.cells e.cells.toArray 45) := bE
    have CC := flies_calls w1 w0 n B s e h (ho.below Bo) (by omega) hz hn
    with_reducible refine wp_region_lit ?_
    with_reducible refine wpList_cutAt 1 ?_
    simp only [List.take_succ_cons, List.take_zero, List.drop_succ_cons, List.drop_zero]
    repeat (first | go_values | go_skip | go_guarded | go_step | go_upon)
    with_reducible refine CutQ.go_ ?_
    with_reducible refine wpList_load_row rfl 45 (.tmp 3) rfl gE (by kernel_rfl) 45 e.cells.toArray (0, 0) _ bE' Tryz.underlying45 (by kernel_rfl) (by kernel_rfl) ?_
    go_frame
    clear bE'
    go_wp2_with (go_at_call 104; refine CC.mono ?_; rintro _ w2 ⟨rfl, M2⟩; clear CC)
    go_ret
    exact ⟨rfl, ⟨M2.ok, Bw.trans M2.kp⟩⟩
  · have q1 : (e.kind == 1) = false := by rw [hk]; rfl
    have q2 : (e.kind == 2) = false := by rw [hk]; rfl
    have q3 : (e.kind == 3) = false := by rw [hk]; rfl
    have q4 : (e.kind == 4) = false := by rw [hk]; rfl
    have q5 : (e.kind == 5) = false := by rw [hk]; rfl
    have q16 : (e.kind == 16) = false := by rw [hk]; rfl
    have q11 : (e.kind == 11) = false := by rw [hk]; rfl
    have q12 : (e.kind == 12) = false := by rw [hk]; rfl
    have q13 : (e.kind == 13) = false := by rw [hk]; rfl
    have q14 : (e.kind == 14) = false := by rw [hk]; rfl
    have q15 : (e.kind == 15) = true := by rw [hk]; rfl
    go_upto_region 30 with fail
    clear c0 q1 q2 q3 q4 q5 q16 q11 q12 q13 q14 q15
    have bE' : w1.heap[gE]? = some (Obj.cells e.cells.toArray 45) := bE
    have CC := flies_calls w1 w0 n B s e h (ho.below Bo) (by omega) hz hn
    with_reducible refine wp_region_lit ?_
    with_reducible refine wpList_cutAt 1 ?_
    simp only [List.take_succ_cons, List.take_zero, List.drop_succ_cons, List.drop_zero]
    repeat (first | go_values | go_skip | go_guarded | go_step | go_upon)
    with_reducible refine CutQ.go_ ?_
    with_reducible refine wpList_load_row rfl 45 (.tmp 3) rfl gE (by kernel_rfl) 45 e.cells.toArray (0, 0) _ bE' Tryz.underlying45 (by kernel_rfl) (by kernel_rfl) ?_
    go_frame
    clear bE'
    go_wp2_with (go_at_call 104; refine CC.mono ?_; rintro _ w2 ⟨rfl, M2⟩; clear CC)
    go_ret
    exact ⟨rfl, ⟨M2.ok, Bw.trans M2.kp⟩⟩
  · have q1 : (e.kind == 1) = false := by rw [hk]; rfl
    have q2 : (e.kind == 2) = false := by rw [hk]; rfl
    have q3 : (e.kind == 3) = false := by rw [hk]; rfl
    have q4 : (e.kind == 4) = false := by rw [hk]; rfl
    have q5 : (e.kind == 5) = false := by rw [hk]; rfl
    have q16 : (e.kind == 16) = true := by rw [hk]; rfl
    go_upto_region 21 with fail
    clear c0 q1 q2 q3 q4 q5 q16
    have cg := h.blk.at_ (i := 2) (v := .map (some B.wt)) rfl
    have c2 := bE.at_ (i := 2) (v := .int .i64 e.node) rfl
    obtain ⟨F_, m_, f_⟩ := h.mw
    have DC := drop_calls w1.drew B.wt n F_ e.node (m_.of_block rfl)
    go_still_tail 6, (by kernel_rfl)
    change wpList _ _ _ _ _ w1.drew
    go_upto_region 22 with (go_at_call 58; refine DC.mono ?_; rintro _ w2 ⟨rfl, mN, gN⟩; clear DC)
    replace h := (h.of_below ((Below.refl _ _).drew)).wt_ gN (Nat.le_refl _) mN (f_.drop e.node)
    replace Bw := Bw.drew.grown gN (fun k hk => .inl (.inr <| .inr <| .inl (Option.some.inj hk).symm))
    replace bE := bE.drew.grownB gN (fun q => by injection q with q; exact hEB.wt q)
    replace hz : w0 ≤ w2.heap.size := Nat.le_trans hz gN.size
    clear mN gN m_ f_
    clear cg c2
    have cg := h.blk.at_ (i := 3) (v := .map (some B.fl)) rfl
    have c2 := bE.at_ (i := 2) (v := .int .i64 e.node) rfl
    obtain ⟨F_, m_, f_⟩ := h.mf
    have DC := drop_calls w2.drew B.fl n F_ e.node (m_.of_block rfl)
    go_still_tail 6, (by kernel_rfl)
    change wpList _ _ _ _ _ w2.drew
    go_upto_region 23 with (go_at_call 58; refine DC.mono ?_; rintro _ w3 ⟨rfl, mN, gN⟩; clear DC)
    replace h := (h.of_below ((Below.refl _ _).drew)).fl_ gN (Nat.le_refl _) mN (f_.drop e.node)
    replace Bw := Bw.drew.grown gN (fun k hk => .inl (.inr <| .inr <| .inr <| .inl (Option.some.inj hk).symm))
    replace bE := bE.drew.grownB gN (fun q => by injection q with q; exact hEB.fl q)
    replace hz : w0 ≤ w3.heap.size := Nat.le_trans hz gN.size
    clear mN gN m_ f_
    clear cg c2
    have cg := h.blk.at_ (i := 4) (v := .map (some B.fe)) rfl
    have c2 := bE.at_ (i := 2) (v := .int .i64 e.node) rfl
    obtain ⟨F_, m_, f_⟩ := h.me
    go_still_tail 6, (by kernel_rfl)
    change wpList _ _ _ _ _ w3.drew
    replace m_ : MapO w3.drew 3 B.fe n F_ := m_.of_block rfl
    with_reducible refine wpList_delete_O rfl (.tmp 124) (.tmp 126) 105 3 rfl intKeyed Tryz.underlying105 B.fe n F_ (by kernel_rfl) m_ (.int .i64 e.node) (.int .i64 e.node) (by kernel_rfl) hkn ?_
    intro w4 mN gN
    replace h := (h.of_below ((Below.refl _ _).drew)).fe_ gN (Nat.le_refl _) mN (f_.set e.node (c := 0) rfl)
    replace Bw := Bw.drew.grown gN (fun k hk => .inl (.inr <| .inr <| .inr <| .inr (Option.some.inj hk).symm))
    replace bE := bE.drew.grownB gN (fun q => by injection q with q; exact hEB.fe q)
    replace hz : w0 ≤ w4.heap.size := Nat.le_trans hz gN.size
    clear mN gN m_ f_
    go_frame
    clear cg c2
    go_wp2_with fail
    go_ret
    refine ⟨?_, ⟨by rw [mayS_16 (e := e.abs) hk]; exact h.more (by omega), Bw⟩⟩
    rw [mayB_16 (e := e.abs) hk]
    rfl
end Go.Proofs.YtiokbebodblhaaaGreatDoor
