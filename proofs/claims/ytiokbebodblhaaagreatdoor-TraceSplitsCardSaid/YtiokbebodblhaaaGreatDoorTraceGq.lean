/-
  Walk of the document's reader: a request. Printed by docrq.py.
-/
import Derived.Test.YtiokbebodblhaaaGreatDoorTGl
namespace Go.Proofs.YtiokbebodblhaaaGreatDoor
open Go.RowKit TraceP
attribute [local go_sem] Row.val

theorem DHolds.more {L : Nat} {w0 w1 w w' : World} {g b : Nat} {F : Nat → Prop} {T : TypeId} {s : RdS} {cs : Array Value} (h : DHolds L w0 w1 g b F T s cs w) (K : Kept (fun k => w1.heap.size ≤ k) w w') : DHolds L w0 w1 g b F T s cs w' := by
  have h1 := h.sz
  have h2 := h.lt
  have h3 := h.lo
  exact ⟨h.ok.keptF K fun k hk => ⟨.inr (by omega), by omega, by omega⟩, (K.block b h.blk.lt (by omega)).trans h.blk,
    ⟨K.os.trans h.kept.os, K.tape.trans h.kept.tape, K.output.trans h.kept.output, Nat.le_trans h.kept.size K.size, fun k hk hg => (K.block k (Nat.lt_of_lt_of_le hk h.kept.size) (by omega)).trans (h.kept.block k hk hg)⟩, h.lt, h.hF, h.lo, h.sz⟩
set_option maxRecDepth 100000 in
set_option maxHeartbeats 3200000 in
theorem dreqr_calls (L : Nat) (w0 w : World) (g : Nat) (F : Nat → Prop) (s : RdS) (H : DdOK L w0 w g F s) :
    Calls Tryz.prog 95 #[.pointer (some ⟨g, 0, none⟩)] w fun e w' => ∃ r : ReqR, e = .returned (.agg r.cells.toArray) ∧ r.abs = (rReq L s).1 ∧ RowN spC w.heap.size w' r.specs ∧ RowN tgC w.heap.size w' r.mtch ∧ RowN tgC w.heap.size w' r.non ∧ DReads L w0 g F (rReq L s).2 w w' := by
  have hg := H.lt
  have H0 := (DHold.start H).alloc (.cells zReqR.cells.toArray 29)
  have bR := Blk.new w 29 zReqR.cells.toArray
  obtain ⟨a0, s1, q0⟩ : ∃ a s', rTruth s = (a, s') := ⟨_, _, rfl⟩
  have C := dtruth_calls L w0 _ g _ s H0.ok
  rw [q0] at C
  replace q0 := Lib.hid q0
  go_enter Tryz.func95, Tryz.ntmps95
  go_upto_region 2 with (go_at_call 93; refine C.mono ?_; rintro _ w1 ⟨rfl, R1⟩; have H1 := H0.call R1; have bR1 := bR.rdD R1 (by omega); clear R1 H0 bR C)
  have hgb : g < w1.heap.size := H1.ok.lt
  have hwb : w.heap.size < w1.heap.size := bR1.lt
  have bR2 := bR1.alloc (.cells (ReqR.mk a0 [] noRow noRow noRow false false 0 0 zTag).cells.toArray 29)
  have h0 := DHolds.start H1.ok 29 (ReqR.mk a0 [] noRow noRow noRow false false 0 0 zTag).cells.toArray
  with_reducible refine code_abs (fun w' => DHolds L w0 (w1.alloc (.cells (ReqR.mk a0 [] noRow noRow noRow false false 0 0 zTag).cells.toArray 29)) g w1.heap.size (fun k => F k ∨ w.heap.size ≤ k) 29 s1 (ReqR.mk a0 [] noRow noRow noRow false false 0 0 zTag).cells.toArray w') ?_ ?_
  · exact h0
  clear h0 bR1
  rintro v1 h0
  obtain ⟨a1, s2, q1⟩ : ∃ a s', rText s1 = (a, s') := ⟨_, _, rfl⟩
  have CW := dw_calls L w0 v1 g _ s1 h0.ok
  have hsh := h0.ok.head
  have G3 : rTextW (pWord s1).1 (pWord s1).2 = (a1, s2) := q1
  replace q1 := Lib.hid q1
  obtain ⟨tt, sa, qa⟩ : ∃ a z, pWord s1 = (a, z) := ⟨_, _, rfl⟩
  rw [qa] at CW G3 hsh
  dsimp only at CW G3 hsh
  have CX := fun W (h : DdOK L w0 W g _ sa) => dtextr_calls L w0 W g (fun k => (fun k => F k ∨ w.heap.size ≤ k) k ∨ w1.heap.size ≤ k) sa h tt hsh
  rw [G3] at CX
  dsimp only at CX
  clear G3 qa
  go_upto_region 3 with (first | (go_at_call 46; refine CW.mono ?_; rintro _ wA ⟨rfl, RA⟩; have hA := h0.call RA; clear h0 RA CW) | (go_at_call 91; have _q := hA; refine (CX _ hA.ok).mono ?_; rintro _ w2 ⟨rfl, RB⟩; have h1 := hA.call RB; have k0 := h1.at_ (i := 1) (v := .string ⟨#[]⟩) rfl; have f0 := h1.blk.frozen 1; clear hA _q RB CX))
  with_reducible refine code_abs (fun w' => DHolds L w0 (w1.alloc (.cells (ReqR.mk a0 [] noRow noRow noRow false false 0 0 zTag).cells.toArray 29)) g w1.heap.size (fun k => F k ∨ w.heap.size ≤ k) 29 s2 (ReqR.mk a0 a1 noRow noRow noRow false false 0 0 zTag).cells.toArray w') ?_ ?_
  · exact (h1.set 1 (.string (bstr a1))).to rfl
  clear h1 k0 f0
  rintro v2 h0
  have hw1 : (w1.alloc (.cells (ReqR.mk a0 [] noRow noRow noRow false false 0 0 zTag).cells.toArray 29)).heap.size = w1.heap.size + 1 := by simp
  have fewL := H.few
  have hI := rMany_I L s2
  have hM := many_le L s2
  have C := dmany_calls L w0 v2 g _ s2 h0.ok
  have G0 : Hid (pGo rSpan (rMany L s2).1.toNat [] (rMany L s2).2 = rList L rSpan s2) := Lib.hid rfl
  obtain ⟨a2, s3, q2⟩ : ∃ a s', rList L rSpan s2 = (a, s') := ⟨_, _, rfl⟩
  rw [q2] at G0
  replace q2 := Lib.hid q2
  generalize rMany L s2 = qm at *
  obtain ⟨k0, sm⟩ := qm
  dsimp only at G0 hI hM C
  go_wp2_with (go_at_call 134; refine C.mono ?_; rintro _ v3 ⟨rfl, RM⟩; have h1 := h0.call RM; clear RM C h0)
  go_loopw [4] (fun n wr => ∃ (k : Int) (r : Row Spn) (s' : RdS), n = .int .i64 k ∧ I64 k ∧ DHolds L w0 (w1.alloc (.cells (ReqR.mk a0 [] noRow noRow noRow false false 0 0 zTag).cells.toArray 29)) g w1.heap.size (fun k => F k ∨ w.heap.size ≤ k) 29 s' (ReqR.mk a0 a1 r noRow noRow false false 0 0 zTag).cells.toArray wr ∧ wr.ownsRow (w1.heap.size + 1) 74 2 r.val r.l.length (fl spC r.l) ∧ Hid (pGo rSpan k.toNat r.l s' = (a2, s3)) ∧ r.l.length + k.toNat ≤ L) (fun n _ => (intOf n).toNat)
  case atStart => exact ⟨k0, noRow, sm, rfl, hI, h1, ⟨rfl, .inl ⟨rfl, rfl⟩⟩, G0, by show 0 + _ ≤ _; omega⟩
  case round =>
    clear hI h1 G0 hM
    obtain ⟨k, r, s', rfl, hI, h0, hown, GG, few⟩ := hrel
    obtain ⟨A0, c0, n0, bk⟩ := h0.ok.bad_
    have c1 := bk.at_ (i := 2) (v := .bool s'.2) rfl
    have hlo := h0.size
    by_cases hk : 0 < k
    · have dk : decide (0 < k) = true := decide_eq_true hk
      cases hb : s'.2
      · rw [hb] at c1
        have g1 := go_succ rSpan k r.l s' hk hb
        have G2 : pGo rSpan (k - 1).toNat (r.l ++ [(rSpan s').1]) (rSpan s').2 = (a2, s3) := g1.symm.trans GG.out
        have wk : wrap64 (k - 1) = k - 1 := by have := hI.1; have := hI.2; unfold wrap64; omega
        clear g1 GG
        have C := dspanr_calls L w0 wr g _ s' h0.ok
        obtain ⟨a, sb, qb⟩ : ∃ a z, rSpan s' = (a, z) := ⟨_, _, rfl⟩
        rw [qb] at C G2
        dsimp only at C G2
        clear qb
        replace G2 := Lib.hid G2
        go_upto_region 7 with (go_at_call 97; refine C.mono ?_; rintro _ w2 ⟨rfl, RB⟩; have h1 := h0.call RB; have own2 := own_frame hown (fun k hk => RB.kept.block k (hown.lt k hk).2 (by have := (hown.lt k hk).1; omega)); clear RB hown h0 c1 bk C)
        have hx5 := Blk.new w2 38 #[.int .i64 a.frm, .int .i64 a.to]
        with_reducible refine code_abs (fun w' => DHolds L w0 (w1.alloc (.cells (ReqR.mk a0 [] noRow noRow noRow false false 0 0 zTag).cells.toArray 29)) g w1.heap.size (fun k => F k ∨ w.heap.size ≤ k) 29 sb (ReqR.mk a0 a1 r noRow noRow false false 0 0 zTag).cells.toArray w' ∧ w'.ownsRow (w1.heap.size + 1) 74 2 r.val r.l.length (fl spC r.l) ∧ Blk w' w2.heap.size 38 #[.int .i64 a.frm, .int .i64 a.to]) ?_ ?_
        · exact ⟨h1.below (below_new w2 _), own_below own2 (below_new w2 _) (fun k hk => (own2.lt k hk).2), hx5⟩
        clear h1 own2 hx5 hlo
        rintro w3 ⟨h0, hown, hx5⟩
        have hlo := h0.size
        obtain ⟨rA, rc, rl⟩ := r
        have k2 := h0.at_ (i := 2) (v := .slice rA rl.length rc) rfl
        have f2 := h0.blk.frozen 2
        have x0 := hx5.at_ (i := 0) (v := .int .i64 a.frm) rfl
        have x1 := hx5.at_ (i := 1) (v := .int .i64 a.to) rfl
        have hownv : w3.ownsRow (w1.heap.size + 1) 74 2 (.slice rA rl.length rc) rl.length (fl spC rl) := hown
        obtain ⟨A', c', hsl, hnc, hcm⟩ := own_form hownv
        clear hsl
        dsimp only at few G2
        go_wp2_with ((with_reducible show wpList _ _ _ (⟨some 37, _, _, _, _, _⟩ :: _) _ _); refine wpList_append_rv el_spec rfl (.tmp 30) (.tmp 36) rfl (w1.heap.size + 1) _ rl.length (fl spC rl) rfl (own_below hownv (below_new w3 _) (fun k hk => (hownv.lt k hk).2)) (some ⟨w3.heap.size, 0, none⟩) 1 1 (spC a) rfl rfl (RV.new w3 (spC a) 74 (0, 0)) (spC_one _) ?f2 ?f3 ?f4 ?_)
        case f2 => unfold maxLen; omega
        case f3 => omega
        case f4 => first | exact hlo | omega | (simp; omega)
        intro v' w4 own4 gr hv
        have h4 := h0.more (((Kept.refl (fun k => (w1.alloc (.cells (ReqR.mk a0 [] noRow noRow noRow false false 0 0 zTag).cells.toArray 29)).heap.size ≤ k) w3).alloc _).grown gr (fun k hk => .inl (by rw [hw1]; exact (hownv.lt k hk).1)))
        have k4 := h4.at_ (i := 2) (v := .slice rA rl.length rc) rfl
        have f4 := h4.blk.frozen 2
        obtain ⟨A5, c5, rfl, hnc5, hcm5⟩ := own_form own4
        clear gr hv h0 hown hownv hx5 k2 f2 x0 x1
        go_wp2_with fail
        go_roundw
        case rel => exact ⟨k - 1, ⟨A5, c5, rl ++ [a]⟩, sb, rfl, ⟨by have := hI.1; omega, by have := hI.2; omega⟩, ((h4.set 2 (.slice A5 (rl.length + 1) c5)).to (by simp [ReqR.cells, Row.val, noRow, List.length_append])), by rw [show (Row.mk A5 c5 (rl ++ [a])).val = .slice A5 (rl.length + 1) c5 by simp [Row.val], show (Row.mk A5 c5 (rl ++ [a])).l.length = rl.length + 1 by simp, show (Row.mk A5 c5 (rl ++ [a])).l = rl ++ [a] from rfl, fl_append, fl_one]; exact own_frame own4 (fun k hk => heap_setCell_other _ _ _ _ (by have := (own4.lt k hk).1; show k ≠ w1.heap.size; omega)), G2, by show (rl ++ [a]).length + _ ≤ _; rw [List.length_append, List.length_singleton]; omega⟩
        case measure => simp [intOf]; omega
      · rw [hb] at c1
        have G2 := GG.out
        rw [go_zero rSpan _ _ _ (.inr hb)] at G2
        injection G2 with g1 g2
        subst g1 g2
        have nr : RowN spC (w1.heap.size + 1) wr r := ⟨by obtain ⟨A', c', hv, h1, h2⟩ := own_form hown; unfold Row.val at hv; injection hv with _ _ e3; rw [e3]; exact h1, by obtain ⟨A', c', hv, h1, h2⟩ := own_form hown; unfold Row.val at hv; injection hv with _ _ e3; rw [e3]; exact h2, RVF.of_own hown (fun i hi => .inl hi)⟩
        clear GG hown few hI
        go_upto_region 8 with (fail)
        clear c1 bk dk
        have l2 := Lib.hid (rfl : r.l = r.l)
        obtain ⟨r2, hr2⟩ : ∃ x, x = r := ⟨_, rfl⟩
        rw [← hr2] at q2 nr h0
        with_reducible refine code_abs (fun w' => DHolds L w0 (w1.alloc (.cells (ReqR.mk a0 [] noRow noRow noRow false false 0 0 zTag).cells.toArray 29)) g w1.heap.size (fun k => F k ∨ w.heap.size ≤ k) 29 s' (ReqR.mk a0 a1 r2 noRow noRow false false 0 0 zTag).cells.toArray w' ∧ RowN spC (w1.heap.size + 1) w' r2) ?_ ?_
        · exact ⟨h0, nr⟩
        clear h0 nr hr2 l2
        rintro v3 ⟨h0, n2⟩
        obtain ⟨s3, hs3⟩ : ∃ x, x = s' := ⟨_, rfl⟩
        rw [← hs3] at h0 q2
        clear hs3 hb
        obtain ⟨a3, s4, q3⟩ : ∃ a s', rList L rTag s3 = (a, s') := ⟨_, _, rfl⟩
        have C := dtags_read L w0 v3 g _ s3 h0.ok
        rw [q3] at C
        replace q3 := Lib.hid q3
        go_upto_region 9 with (go_at_call 135; refine C.mono ?_; rintro _ w2 ⟨r3, rfl, l3, m3, RB⟩; have h1 := h0.call RB; have n2 := n2.kept RB.kept (fun k hk => by omega); replace l3 := Lib.hid l3; have n3 := m3.older (B' := w1.heap.size + 1) (by have := h0.size; omega); have k0 := h1.at_ (i := 3) (v := .slice none 0 0) rfl; have f0 := h1.blk.frozen 3; clear h0 RB C m3)
        with_reducible refine code_abs (fun w' => DHolds L w0 (w1.alloc (.cells (ReqR.mk a0 [] noRow noRow noRow false false 0 0 zTag).cells.toArray 29)) g w1.heap.size (fun k => F k ∨ w.heap.size ≤ k) 29 s4 (ReqR.mk a0 a1 r2 r3 noRow false false 0 0 zTag).cells.toArray w' ∧ RowN spC (w1.heap.size + 1) w' r2 ∧ RowN tgC (w1.heap.size + 1) w' r3) ?_ ?_
        · exact ⟨(h1.set 3 (.slice r3.A r3.l.length r3.cap)).to rfl, (n2.cell (p := ⟨w1.heap.size, 3, none⟩) (Nat.lt_succ_self _) (.slice r3.A r3.l.length r3.cap)), (n3.cell (p := ⟨w1.heap.size, 3, none⟩) (Nat.lt_succ_self _) (.slice r3.A r3.l.length r3.cap))⟩
        clear h1 k0 f0 n2 n3
        rintro v4 ⟨h0, n2, n3⟩
        obtain ⟨a4, s5, q4⟩ : ∃ a s', rList L rTag s4 = (a, s') := ⟨_, _, rfl⟩
        have C := dtags_read L w0 v4 g _ s4 h0.ok
        rw [q4] at C
        replace q4 := Lib.hid q4
        go_upto_region 10 with (go_at_call 135; refine C.mono ?_; rintro _ w2 ⟨r4, rfl, l4, m4, RB⟩; have h1 := h0.call RB; have n2 := n2.kept RB.kept (fun k hk => by omega); have n3 := n3.kept RB.kept (fun k hk => by omega); replace l4 := Lib.hid l4; have n4 := m4.older (B' := w1.heap.size + 1) (by have := h0.size; omega); have k0 := h1.at_ (i := 4) (v := .slice none 0 0) rfl; have f0 := h1.blk.frozen 4; clear h0 RB C m4)
        with_reducible refine code_abs (fun w' => DHolds L w0 (w1.alloc (.cells (ReqR.mk a0 [] noRow noRow noRow false false 0 0 zTag).cells.toArray 29)) g w1.heap.size (fun k => F k ∨ w.heap.size ≤ k) 29 s5 (ReqR.mk a0 a1 r2 r3 r4 false false 0 0 zTag).cells.toArray w' ∧ RowN spC (w1.heap.size + 1) w' r2 ∧ RowN tgC (w1.heap.size + 1) w' r3 ∧ RowN tgC (w1.heap.size + 1) w' r4) ?_ ?_
        · exact ⟨(h1.set 4 (.slice r4.A r4.l.length r4.cap)).to rfl, (n2.cell (p := ⟨w1.heap.size, 4, none⟩) (Nat.lt_succ_self _) (.slice r4.A r4.l.length r4.cap)), (n3.cell (p := ⟨w1.heap.size, 4, none⟩) (Nat.lt_succ_self _) (.slice r4.A r4.l.length r4.cap)), (n4.cell (p := ⟨w1.heap.size, 4, none⟩) (Nat.lt_succ_self _) (.slice r4.A r4.l.length r4.cap))⟩
        clear h1 k0 f0 n2 n3 n4
        rintro v5 ⟨h0, n2, n3, n4⟩
        obtain ⟨a5, s6, q5⟩ : ∃ a s', rTruth s5 = (a, s') := ⟨_, _, rfl⟩
        have C := dtruth_calls L w0 v5 g _ s5 h0.ok
        rw [q5] at C
        replace q5 := Lib.hid q5
        go_upto_region 11 with (go_at_call 93; refine C.mono ?_; rintro _ w2 ⟨rfl, RB⟩; have h1 := h0.call RB; have n2 := n2.kept RB.kept (fun k hk => by omega); have n3 := n3.kept RB.kept (fun k hk => by omega); have n4 := n4.kept RB.kept (fun k hk => by omega); have k0 := h1.at_ (i := 5) (v := .bool false) rfl; have f0 := h1.blk.frozen 5; clear h0 RB C)
        with_reducible refine code_abs (fun w' => DHolds L w0 (w1.alloc (.cells (ReqR.mk a0 [] noRow noRow noRow false false 0 0 zTag).cells.toArray 29)) g w1.heap.size (fun k => F k ∨ w.heap.size ≤ k) 29 s6 (ReqR.mk a0 a1 r2 r3 r4 a5 false 0 0 zTag).cells.toArray w' ∧ RowN spC (w1.heap.size + 1) w' r2 ∧ RowN tgC (w1.heap.size + 1) w' r3 ∧ RowN tgC (w1.heap.size + 1) w' r4) ?_ ?_
        · exact ⟨(h1.set 5 (.bool a5)).to rfl, (n2.cell (p := ⟨w1.heap.size, 5, none⟩) (Nat.lt_succ_self _) (.bool a5)), (n3.cell (p := ⟨w1.heap.size, 5, none⟩) (Nat.lt_succ_self _) (.bool a5)), (n4.cell (p := ⟨w1.heap.size, 5, none⟩) (Nat.lt_succ_self _) (.bool a5))⟩
        clear h1 k0 f0 n2 n3 n4
        rintro v6 ⟨h0, n2, n3, n4⟩
        obtain ⟨a6, s7, q6⟩ : ∃ a s', rTruth s6 = (a, s') := ⟨_, _, rfl⟩
        have C := dtruth_calls L w0 v6 g _ s6 h0.ok
        rw [q6] at C
        replace q6 := Lib.hid q6
        go_upto_region 12 with (go_at_call 93; refine C.mono ?_; rintro _ w2 ⟨rfl, RB⟩; have h1 := h0.call RB; have n2 := n2.kept RB.kept (fun k hk => by omega); have n3 := n3.kept RB.kept (fun k hk => by omega); have n4 := n4.kept RB.kept (fun k hk => by omega); have k0 := h1.at_ (i := 6) (v := .bool false) rfl; have f0 := h1.blk.frozen 6; clear h0 RB C)
        with_reducible refine code_abs (fun w' => DHolds L w0 (w1.alloc (.cells (ReqR.mk a0 [] noRow noRow noRow false false 0 0 zTag).cells.toArray 29)) g w1.heap.size (fun k => F k ∨ w.heap.size ≤ k) 29 s7 (ReqR.mk a0 a1 r2 r3 r4 a5 a6 0 0 zTag).cells.toArray w' ∧ RowN spC (w1.heap.size + 1) w' r2 ∧ RowN tgC (w1.heap.size + 1) w' r3 ∧ RowN tgC (w1.heap.size + 1) w' r4) ?_ ?_
        · exact ⟨(h1.set 6 (.bool a6)).to rfl, (n2.cell (p := ⟨w1.heap.size, 6, none⟩) (Nat.lt_succ_self _) (.bool a6)), (n3.cell (p := ⟨w1.heap.size, 6, none⟩) (Nat.lt_succ_self _) (.bool a6)), (n4.cell (p := ⟨w1.heap.size, 6, none⟩) (Nat.lt_succ_self _) (.bool a6))⟩
        clear h1 k0 f0 n2 n3 n4
        rintro v7 ⟨h0, n2, n3, n4⟩
        obtain ⟨a7, s8, q7⟩ : ∃ a s', rNum s7 = (a, s') := ⟨_, _, rfl⟩
        have C := dnumr_calls L w0 v7 g _ s7 h0.ok
        rw [q7] at C
        replace q7 := Lib.hid q7
        go_upto_region 13 with (go_at_call 45; refine C.mono ?_; rintro _ w2 ⟨rfl, RB⟩; have h1 := h0.call RB; have n2 := n2.kept RB.kept (fun k hk => by omega); have n3 := n3.kept RB.kept (fun k hk => by omega); have n4 := n4.kept RB.kept (fun k hk => by omega); have k0 := h1.at_ (i := 7) (v := .int .i64 0) rfl; have f0 := h1.blk.frozen 7; clear h0 RB C)
        with_reducible refine code_abs (fun w' => DHolds L w0 (w1.alloc (.cells (ReqR.mk a0 [] noRow noRow noRow false false 0 0 zTag).cells.toArray 29)) g w1.heap.size (fun k => F k ∨ w.heap.size ≤ k) 29 s8 (ReqR.mk a0 a1 r2 r3 r4 a5 a6 a7 0 zTag).cells.toArray w' ∧ RowN spC (w1.heap.size + 1) w' r2 ∧ RowN tgC (w1.heap.size + 1) w' r3 ∧ RowN tgC (w1.heap.size + 1) w' r4) ?_ ?_
        · exact ⟨(h1.set 7 (.int .i64 a7)).to rfl, (n2.cell (p := ⟨w1.heap.size, 7, none⟩) (Nat.lt_succ_self _) (.int .i64 a7)), (n3.cell (p := ⟨w1.heap.size, 7, none⟩) (Nat.lt_succ_self _) (.int .i64 a7)), (n4.cell (p := ⟨w1.heap.size, 7, none⟩) (Nat.lt_succ_self _) (.int .i64 a7))⟩
        clear h1 k0 f0 n2 n3 n4
        rintro v8 ⟨h0, n2, n3, n4⟩
        obtain ⟨a8, s9, q8⟩ : ∃ a s', rNum s8 = (a, s') := ⟨_, _, rfl⟩
        have C := dnumr_calls L w0 v8 g _ s8 h0.ok
        rw [q8] at C
        replace q8 := Lib.hid q8
        go_upto_region 14 with (go_at_call 45; refine C.mono ?_; rintro _ w2 ⟨rfl, RB⟩; have h1 := h0.call RB; have n2 := n2.kept RB.kept (fun k hk => by omega); have n3 := n3.kept RB.kept (fun k hk => by omega); have n4 := n4.kept RB.kept (fun k hk => by omega); have k0 := h1.at_ (i := 8) (v := .int .i64 0) rfl; have f0 := h1.blk.frozen 8; clear h0 RB C)
        with_reducible refine code_abs (fun w' => DHolds L w0 (w1.alloc (.cells (ReqR.mk a0 [] noRow noRow noRow false false 0 0 zTag).cells.toArray 29)) g w1.heap.size (fun k => F k ∨ w.heap.size ≤ k) 29 s9 (ReqR.mk a0 a1 r2 r3 r4 a5 a6 a7 a8 zTag).cells.toArray w' ∧ RowN spC (w1.heap.size + 1) w' r2 ∧ RowN tgC (w1.heap.size + 1) w' r3 ∧ RowN tgC (w1.heap.size + 1) w' r4) ?_ ?_
        · exact ⟨(h1.set 8 (.int .i64 a8)).to rfl, (n2.cell (p := ⟨w1.heap.size, 8, none⟩) (Nat.lt_succ_self _) (.int .i64 a8)), (n3.cell (p := ⟨w1.heap.size, 8, none⟩) (Nat.lt_succ_self _) (.int .i64 a8)), (n4.cell (p := ⟨w1.heap.size, 8, none⟩) (Nat.lt_succ_self _) (.int .i64 a8))⟩
        clear h1 k0 f0 n2 n3 n4
        rintro v9 ⟨h0, n2, n3, n4⟩
        obtain ⟨a9, s10, q9⟩ : ∃ a s', rTag s9 = (a, s') := ⟨_, _, rfl⟩
        have C := dtagr_calls L w0 v9 g _ s9 h0.ok
        rw [q9] at C
        replace q9 := Lib.hid q9
        go_upto_region 15 with (go_at_call 98; refine C.mono ?_; rintro _ w2 ⟨rfl, RB⟩; have h1 := h0.call RB; have n2 := n2.kept RB.kept (fun k hk => by omega); have n3 := n3.kept RB.kept (fun k hk => by omega); have n4 := n4.kept RB.kept (fun k hk => by omega); have k0 := h1.at_ (i := 9) (v := .string ⟨#[]⟩) rfl; have f0 := h1.blk.frozen 9; have k1 := h1.at_ (i := 10) (v := .bool false) rfl; have f1 := h1.blk.frozen 10; clear h0 RB C)
        with_reducible refine code_abs (fun w' => DHolds L w0 (w1.alloc (.cells (ReqR.mk a0 [] noRow noRow noRow false false 0 0 zTag).cells.toArray 29)) g w1.heap.size (fun k => F k ∨ w.heap.size ≤ k) 29 s10 (ReqR.mk a0 a1 r2 r3 r4 a5 a6 a7 a8 a9).cells.toArray w' ∧ RowN spC (w1.heap.size + 1) w' r2 ∧ RowN tgC (w1.heap.size + 1) w' r3 ∧ RowN tgC (w1.heap.size + 1) w' r4) ?_ ?_
        · exact ⟨((h1.set 9 (.string (bstr a9.text))).set 10 (.bool a9.weak)).to rfl, ((n2.cell (p := ⟨w1.heap.size, 9, none⟩) (Nat.lt_succ_self _) (.string (bstr a9.text))).cell (p := ⟨w1.heap.size, 10, none⟩) (Nat.lt_succ_self _) (.bool a9.weak)), ((n3.cell (p := ⟨w1.heap.size, 9, none⟩) (Nat.lt_succ_self _) (.string (bstr a9.text))).cell (p := ⟨w1.heap.size, 10, none⟩) (Nat.lt_succ_self _) (.bool a9.weak)), ((n4.cell (p := ⟨w1.heap.size, 9, none⟩) (Nat.lt_succ_self _) (.string (bstr a9.text))).cell (p := ⟨w1.heap.size, 10, none⟩) (Nat.lt_succ_self _) (.bool a9.weak))⟩
        clear h1 k0 f0 k1 f1 n2 n3 n4
        rintro v10 ⟨h0, n2, n3, n4⟩
        have hR := h0.older bR2 (by omega) (by omega)
        have hX := h0.blk
        have hR' : v10.heap[w.heap.size]? = some (Obj.cells zReqR.cells.toArray 29) := hR
        have hX' : v10.heap[w1.heap.size]? = some (Obj.cells (ReqR.mk a0 a1 r2 r3 r4 a5 a6 a7 a8 a9).cells.toArray 29) := hX
        with_reducible refine wp_region_lit ?_
        with_reducible refine wpList_load_row rfl 29 (.tmp 3) rfl w1.heap.size (by kernel_rfl) 29 (ReqR.mk a0 a1 r2 r3 r4 a5 a6 a7 a8 a9).cells.toArray (0, 0) _ hX' Tryz.underlying29 (by kernel_rfl) (by kernel_rfl) ?_
        go_frame
        with_reducible refine wpList_store_row rfl 29 (.tmp 2) (.tmp 67) rfl w.heap.size (ReqR.mk a0 a1 r2 r3 r4 a5 a6 a7 a8 a9).cells.toArray (by kernel_rfl) (by kernel_rfl) 29 zReqR.cells.toArray hR' (by kernel_rfl) (by kernel_rfl) (by kernel_rfl) (wpList_nil ?_)
        have bT : (v10.setRow (w.heap.size) (ReqR.mk a0 a1 r2 r3 r4 a5 a6 a7 a8 a9).cells.toArray).heap[w.heap.size]? = some (Obj.cells (ReqR.mk a0 a1 r2 r3 r4 a5 a6 a7 a8 a9).cells.toArray 29) := hR.setRow_ _
        simp only [Act.put]
        repeat go_step
        (try simp only [Exit.inBlock, Exit.then])
        refine bodyPost_ret (results_cell_row rfl _ _ (w.heap.size) 29 (ReqR.mk a0 a1 r2 r3 r4 a5 a6 a7 a8 a9).cells.toArray (0, 0) _ (by kernel_rfl) bT Tryz.underlying29 (by kernel_rfl) (by kernel_rfl)) rfl ?_
        have hH := (H1.call h0.done).setRow (Nat.le_refl w.heap.size) (ReqR.mk a0 a1 r2 r3 r4 a5 a6 a7 a8 a9).cells.toArray
        have e : rReq L s = (⟨a0, a1, r2.l, ⟨r3.l, r4.l, a5, a6, a7, a8, a9⟩⟩, s10) := by unfold rReq rCnd; simp only [q0.out, q1.out, q2.out, q3.out, q4.out, q5.out, q6.out, q7.out, q8.out, q9.out, l3.out, l4.out]
        rw [e]
        exact ⟨(ReqR.mk a0 a1 r2 r3 r4 a5 a6 a7 a8 a9), rfl, rfl, (n2.setRow (by omega) _).older (by omega), (n3.setRow (by omega) _).older (by omega), (n4.setRow (by omega) _).older (by omega), hH.done⟩
    · have dk : decide (0 < k) = false := decide_eq_false hk
      have G2 := GG.out
      rw [go_zero rSpan _ _ _ (.inl (by omega))] at G2
      injection G2 with g1 g2
      subst g1 g2
      have nr : RowN spC (w1.heap.size + 1) wr r := ⟨by obtain ⟨A', c', hv, h1, h2⟩ := own_form hown; unfold Row.val at hv; injection hv with _ _ e3; rw [e3]; exact h1, by obtain ⟨A', c', hv, h1, h2⟩ := own_form hown; unfold Row.val at hv; injection hv with _ _ e3; rw [e3]; exact h2, RVF.of_own hown (fun i hi => .inl hi)⟩
      clear GG hown few hI
      go_upto_region 8 with (fail)
      clear c1 bk dk
      have l2 := Lib.hid (rfl : r.l = r.l)
      obtain ⟨r2, hr2⟩ : ∃ x, x = r := ⟨_, rfl⟩
      rw [← hr2] at q2 nr h0
      with_reducible refine code_abs (fun w' => DHolds L w0 (w1.alloc (.cells (ReqR.mk a0 [] noRow noRow noRow false false 0 0 zTag).cells.toArray 29)) g w1.heap.size (fun k => F k ∨ w.heap.size ≤ k) 29 s' (ReqR.mk a0 a1 r2 noRow noRow false false 0 0 zTag).cells.toArray w' ∧ RowN spC (w1.heap.size + 1) w' r2) ?_ ?_
      · exact ⟨h0, nr⟩
      clear h0 nr hr2 l2
      rintro v3 ⟨h0, n2⟩
      obtain ⟨s3, hs3⟩ : ∃ x, x = s' := ⟨_, rfl⟩
      rw [← hs3] at h0 q2
      clear hs3
      obtain ⟨a3, s4, q3⟩ : ∃ a s', rList L rTag s3 = (a, s') := ⟨_, _, rfl⟩
      have C := dtags_read L w0 v3 g _ s3 h0.ok
      rw [q3] at C
      replace q3 := Lib.hid q3
      go_upto_region 9 with (go_at_call 135; refine C.mono ?_; rintro _ w2 ⟨r3, rfl, l3, m3, RB⟩; have h1 := h0.call RB; have n2 := n2.kept RB.kept (fun k hk => by omega); replace l3 := Lib.hid l3; have n3 := m3.older (B' := w1.heap.size + 1) (by have := h0.size; omega); have k0 := h1.at_ (i := 3) (v := .slice none 0 0) rfl; have f0 := h1.blk.frozen 3; clear h0 RB C m3)
      with_reducible refine code_abs (fun w' => DHolds L w0 (w1.alloc (.cells (ReqR.mk a0 [] noRow noRow noRow false false 0 0 zTag).cells.toArray 29)) g w1.heap.size (fun k => F k ∨ w.heap.size ≤ k) 29 s4 (ReqR.mk a0 a1 r2 r3 noRow false false 0 0 zTag).cells.toArray w' ∧ RowN spC (w1.heap.size + 1) w' r2 ∧ RowN tgC (w1.heap.size + 1) w' r3) ?_ ?_
      · exact ⟨(h1.set 3 (.slice r3.A r3.l.length r3.cap)).to rfl, (n2.cell (p := ⟨w1.heap.size, 3, none⟩) (Nat.lt_succ_self _) (.slice r3.A r3.l.length r3.cap)), (n3.cell (p := ⟨w1.heap.size, 3, none⟩) (Nat.lt_succ_self _) (.slice r3.A r3.l.length r3.cap))⟩
      clear h1 k0 f0 n2 n3
      rintro v4 ⟨h0, n2, n3⟩
      obtain ⟨a4, s5, q4⟩ : ∃ a s', rList L rTag s4 = (a, s') := ⟨_, _, rfl⟩
      have C := dtags_read L w0 v4 g _ s4 h0.ok
      rw [q4] at C
      replace q4 := Lib.hid q4
      go_upto_region 10 with (go_at_call 135; refine C.mono ?_; rintro _ w2 ⟨r4, rfl, l4, m4, RB⟩; have h1 := h0.call RB; have n2 := n2.kept RB.kept (fun k hk => by omega); have n3 := n3.kept RB.kept (fun k hk => by omega); replace l4 := Lib.hid l4; have n4 := m4.older (B' := w1.heap.size + 1) (by have := h0.size; omega); have k0 := h1.at_ (i := 4) (v := .slice none 0 0) rfl; have f0 := h1.blk.frozen 4; clear h0 RB C m4)
      with_reducible refine code_abs (fun w' => DHolds L w0 (w1.alloc (.cells (ReqR.mk a0 [] noRow noRow noRow false false 0 0 zTag).cells.toArray 29)) g w1.heap.size (fun k => F k ∨ w.heap.size ≤ k) 29 s5 (ReqR.mk a0 a1 r2 r3 r4 false false 0 0 zTag).cells.toArray w' ∧ RowN spC (w1.heap.size + 1) w' r2 ∧ RowN tgC (w1.heap.size + 1) w' r3 ∧ RowN tgC (w1.heap.size + 1) w' r4) ?_ ?_
      · exact ⟨(h1.set 4 (.slice r4.A r4.l.length r4.cap)).to rfl, (n2.cell (p := ⟨w1.heap.size, 4, none⟩) (Nat.lt_succ_self _) (.slice r4.A r4.l.length r4.cap)), (n3.cell (p := ⟨w1.heap.size, 4, none⟩) (Nat.lt_succ_self _) (.slice r4.A r4.l.length r4.cap)), (n4.cell (p := ⟨w1.heap.size, 4, none⟩) (Nat.lt_succ_self _) (.slice r4.A r4.l.length r4.cap))⟩
      clear h1 k0 f0 n2 n3 n4
      rintro v5 ⟨h0, n2, n3, n4⟩
      obtain ⟨a5, s6, q5⟩ : ∃ a s', rTruth s5 = (a, s') := ⟨_, _, rfl⟩
      have C := dtruth_calls L w0 v5 g _ s5 h0.ok
      rw [q5] at C
      replace q5 := Lib.hid q5
      go_upto_region 11 with (go_at_call 93; refine C.mono ?_; rintro _ w2 ⟨rfl, RB⟩; have h1 := h0.call RB; have n2 := n2.kept RB.kept (fun k hk => by omega); have n3 := n3.kept RB.kept (fun k hk => by omega); have n4 := n4.kept RB.kept (fun k hk => by omega); have k0 := h1.at_ (i := 5) (v := .bool false) rfl; have f0 := h1.blk.frozen 5; clear h0 RB C)
      with_reducible refine code_abs (fun w' => DHolds L w0 (w1.alloc (.cells (ReqR.mk a0 [] noRow noRow noRow false false 0 0 zTag).cells.toArray 29)) g w1.heap.size (fun k => F k ∨ w.heap.size ≤ k) 29 s6 (ReqR.mk a0 a1 r2 r3 r4 a5 false 0 0 zTag).cells.toArray w' ∧ RowN spC (w1.heap.size + 1) w' r2 ∧ RowN tgC (w1.heap.size + 1) w' r3 ∧ RowN tgC (w1.heap.size + 1) w' r4) ?_ ?_
      · exact ⟨(h1.set 5 (.bool a5)).to rfl, (n2.cell (p := ⟨w1.heap.size, 5, none⟩) (Nat.lt_succ_self _) (.bool a5)), (n3.cell (p := ⟨w1.heap.size, 5, none⟩) (Nat.lt_succ_self _) (.bool a5)), (n4.cell (p := ⟨w1.heap.size, 5, none⟩) (Nat.lt_succ_self _) (.bool a5))⟩
      clear h1 k0 f0 n2 n3 n4
      rintro v6 ⟨h0, n2, n3, n4⟩
      obtain ⟨a6, s7, q6⟩ : ∃ a s', rTruth s6 = (a, s') := ⟨_, _, rfl⟩
      have C := dtruth_calls L w0 v6 g _ s6 h0.ok
      rw [q6] at C
      replace q6 := Lib.hid q6
      go_upto_region 12 with (go_at_call 93; refine C.mono ?_; rintro _ w2 ⟨rfl, RB⟩; have h1 := h0.call RB; have n2 := n2.kept RB.kept (fun k hk => by omega); have n3 := n3.kept RB.kept (fun k hk => by omega); have n4 := n4.kept RB.kept (fun k hk => by omega); have k0 := h1.at_ (i := 6) (v := .bool false) rfl; have f0 := h1.blk.frozen 6; clear h0 RB C)
      with_reducible refine code_abs (fun w' => DHolds L w0 (w1.alloc (.cells (ReqR.mk a0 [] noRow noRow noRow false false 0 0 zTag).cells.toArray 29)) g w1.heap.size (fun k => F k ∨ w.heap.size ≤ k) 29 s7 (ReqR.mk a0 a1 r2 r3 r4 a5 a6 0 0 zTag).cells.toArray w' ∧ RowN spC (w1.heap.size + 1) w' r2 ∧ RowN tgC (w1.heap.size + 1) w' r3 ∧ RowN tgC (w1.heap.size + 1) w' r4) ?_ ?_
      · exact ⟨(h1.set 6 (.bool a6)).to rfl, (n2.cell (p := ⟨w1.heap.size, 6, none⟩) (Nat.lt_succ_self _) (.bool a6)), (n3.cell (p := ⟨w1.heap.size, 6, none⟩) (Nat.lt_succ_self _) (.bool a6)), (n4.cell (p := ⟨w1.heap.size, 6, none⟩) (Nat.lt_succ_self _) (.bool a6))⟩
      clear h1 k0 f0 n2 n3 n4
      rintro v7 ⟨h0, n2, n3, n4⟩
      obtain ⟨a7, s8, q7⟩ : ∃ a s', rNum s7 = (a, s') := ⟨_, _, rfl⟩
      have C := dnumr_calls L w0 v7 g _ s7 h0.ok
      rw [q7] at C
      replace q7 := Lib.hid q7
      go_upto_region 13 with (go_at_call 45; refine C.mono ?_; rintro _ w2 ⟨rfl, RB⟩; have h1 := h0.call RB; have n2 := n2.kept RB.kept (fun k hk => by omega); have n3 := n3.kept RB.kept (fun k hk => by omega); have n4 := n4.kept RB.kept (fun k hk => by omega); have k0 := h1.at_ (i := 7) (v := .int .i64 0) rfl; have f0 := h1.blk.frozen 7; clear h0 RB C)
      with_reducible refine code_abs (fun w' => DHolds L w0 (w1.alloc (.cells (ReqR.mk a0 [] noRow noRow noRow false false 0 0 zTag).cells.toArray 29)) g w1.heap.size (fun k => F k ∨ w.heap.size ≤ k) 29 s8 (ReqR.mk a0 a1 r2 r3 r4 a5 a6 a7 0 zTag).cells.toArray w' ∧ RowN spC (w1.heap.size + 1) w' r2 ∧ RowN tgC (w1.heap.size + 1) w' r3 ∧ RowN tgC (w1.heap.size + 1) w' r4) ?_ ?_
      · exact ⟨(h1.set 7 (.int .i64 a7)).to rfl, (n2.cell (p := ⟨w1.heap.size, 7, none⟩) (Nat.lt_succ_self _) (.int .i64 a7)), (n3.cell (p := ⟨w1.heap.size, 7, none⟩) (Nat.lt_succ_self _) (.int .i64 a7)), (n4.cell (p := ⟨w1.heap.size, 7, none⟩) (Nat.lt_succ_self _) (.int .i64 a7))⟩
      clear h1 k0 f0 n2 n3 n4
      rintro v8 ⟨h0, n2, n3, n4⟩
      obtain ⟨a8, s9, q8⟩ : ∃ a s', rNum s8 = (a, s') := ⟨_, _, rfl⟩
      have C := dnumr_calls L w0 v8 g _ s8 h0.ok
      rw [q8] at C
      replace q8 := Lib.hid q8
      go_upto_region 14 with (go_at_call 45; refine C.mono ?_; rintro _ w2 ⟨rfl, RB⟩; have h1 := h0.call RB; have n2 := n2.kept RB.kept (fun k hk => by omega); have n3 := n3.kept RB.kept (fun k hk => by omega); have n4 := n4.kept RB.kept (fun k hk => by omega); have k0 := h1.at_ (i := 8) (v := .int .i64 0) rfl; have f0 := h1.blk.frozen 8; clear h0 RB C)
      with_reducible refine code_abs (fun w' => DHolds L w0 (w1.alloc (.cells (ReqR.mk a0 [] noRow noRow noRow false false 0 0 zTag).cells.toArray 29)) g w1.heap.size (fun k => F k ∨ w.heap.size ≤ k) 29 s9 (ReqR.mk a0 a1 r2 r3 r4 a5 a6 a7 a8 zTag).cells.toArray w' ∧ RowN spC (w1.heap.size + 1) w' r2 ∧ RowN tgC (w1.heap.size + 1) w' r3 ∧ RowN tgC (w1.heap.size + 1) w' r4) ?_ ?_
      · exact ⟨(h1.set 8 (.int .i64 a8)).to rfl, (n2.cell (p := ⟨w1.heap.size, 8, none⟩) (Nat.lt_succ_self _) (.int .i64 a8)), (n3.cell (p := ⟨w1.heap.size, 8, none⟩) (Nat.lt_succ_self _) (.int .i64 a8)), (n4.cell (p := ⟨w1.heap.size, 8, none⟩) (Nat.lt_succ_self _) (.int .i64 a8))⟩
      clear h1 k0 f0 n2 n3 n4
      rintro v9 ⟨h0, n2, n3, n4⟩
      obtain ⟨a9, s10, q9⟩ : ∃ a s', rTag s9 = (a, s') := ⟨_, _, rfl⟩
      have C := dtagr_calls L w0 v9 g _ s9 h0.ok
      rw [q9] at C
      replace q9 := Lib.hid q9
      go_upto_region 15 with (go_at_call 98; refine C.mono ?_; rintro _ w2 ⟨rfl, RB⟩; have h1 := h0.call RB; have n2 := n2.kept RB.kept (fun k hk => by omega); have n3 := n3.kept RB.kept (fun k hk => by omega); have n4 := n4.kept RB.kept (fun k hk => by omega); have k0 := h1.at_ (i := 9) (v := .string ⟨#[]⟩) rfl; have f0 := h1.blk.frozen 9; have k1 := h1.at_ (i := 10) (v := .bool false) rfl; have f1 := h1.blk.frozen 10; clear h0 RB C)
      with_reducible refine code_abs (fun w' => DHolds L w0 (w1.alloc (.cells (ReqR.mk a0 [] noRow noRow noRow false false 0 0 zTag).cells.toArray 29)) g w1.heap.size (fun k => F k ∨ w.heap.size ≤ k) 29 s10 (ReqR.mk a0 a1 r2 r3 r4 a5 a6 a7 a8 a9).cells.toArray w' ∧ RowN spC (w1.heap.size + 1) w' r2 ∧ RowN tgC (w1.heap.size + 1) w' r3 ∧ RowN tgC (w1.heap.size + 1) w' r4) ?_ ?_
      · exact ⟨((h1.set 9 (.string (bstr a9.text))).set 10 (.bool a9.weak)).to rfl, ((n2.cell (p := ⟨w1.heap.size, 9, none⟩) (Nat.lt_succ_self _) (.string (bstr a9.text))).cell (p := ⟨w1.heap.size, 10, none⟩) (Nat.lt_succ_self _) (.bool a9.weak)), ((n3.cell (p := ⟨w1.heap.size, 9, none⟩) (Nat.lt_succ_self _) (.string (bstr a9.text))).cell (p := ⟨w1.heap.size, 10, none⟩) (Nat.lt_succ_self _) (.bool a9.weak)), ((n4.cell (p := ⟨w1.heap.size, 9, none⟩) (Nat.lt_succ_self _) (.string (bstr a9.text))).cell (p := ⟨w1.heap.size, 10, none⟩) (Nat.lt_succ_self _) (.bool a9.weak))⟩
      clear h1 k0 f0 k1 f1 n2 n3 n4
      rintro v10 ⟨h0, n2, n3, n4⟩
      have hR := h0.older bR2 (by omega) (by omega)
      have hX := h0.blk
      have hR' : v10.heap[w.heap.size]? = some (Obj.cells zReqR.cells.toArray 29) := hR
      have hX' : v10.heap[w1.heap.size]? = some (Obj.cells (ReqR.mk a0 a1 r2 r3 r4 a5 a6 a7 a8 a9).cells.toArray 29) := hX
      with_reducible refine wp_region_lit ?_
      with_reducible refine wpList_load_row rfl 29 (.tmp 3) rfl w1.heap.size (by kernel_rfl) 29 (ReqR.mk a0 a1 r2 r3 r4 a5 a6 a7 a8 a9).cells.toArray (0, 0) _ hX' Tryz.underlying29 (by kernel_rfl) (by kernel_rfl) ?_
      go_frame
      with_reducible refine wpList_store_row rfl 29 (.tmp 2) (.tmp 67) rfl w.heap.size (ReqR.mk a0 a1 r2 r3 r4 a5 a6 a7 a8 a9).cells.toArray (by kernel_rfl) (by kernel_rfl) 29 zReqR.cells.toArray hR' (by kernel_rfl) (by kernel_rfl) (by kernel_rfl) (wpList_nil ?_)
      have bT : (v10.setRow (w.heap.size) (ReqR.mk a0 a1 r2 r3 r4 a5 a6 a7 a8 a9).cells.toArray).heap[w.heap.size]? = some (Obj.cells (ReqR.mk a0 a1 r2 r3 r4 a5 a6 a7 a8 a9).cells.toArray 29) := hR.setRow_ _
      simp only [Act.put]
      repeat go_step
      (try simp only [Exit.inBlock, Exit.then])
      refine bodyPost_ret (results_cell_row rfl _ _ (w.heap.size) 29 (ReqR.mk a0 a1 r2 r3 r4 a5 a6 a7 a8 a9).cells.toArray (0, 0) _ (by kernel_rfl) bT Tryz.underlying29 (by kernel_rfl) (by kernel_rfl)) rfl ?_
      have hH := (H1.call h0.done).setRow (Nat.le_refl w.heap.size) (ReqR.mk a0 a1 r2 r3 r4 a5 a6 a7 a8 a9).cells.toArray
      have e : rReq L s = (⟨a0, a1, r2.l, ⟨r3.l, r4.l, a5, a6, a7, a8, a9⟩⟩, s10) := by unfold rReq rCnd; simp only [q0.out, q1.out, q2.out, q3.out, q4.out, q5.out, q6.out, q7.out, q8.out, q9.out, l3.out, l4.out]
      rw [e]
      exact ⟨(ReqR.mk a0 a1 r2 r3 r4 a5 a6 a7 a8 a9), rfl, rfl, (n2.setRow (by omega) _).older (by omega), (n3.setRow (by omega) _).older (by omega), (n4.setRow (by omega) _).older (by omega), hH.done⟩
end Go.Proofs.YtiokbebodblhaaaGreatDoor
