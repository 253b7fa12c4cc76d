/-
  Walks of the document's reader: a span, lists of tags and of texts. Printed by doclists.py.
-/
import Derived.Test.YtiokbebodblhaaaGreatDoorTGt
namespace Go.Proofs.YtiokbebodblhaaaGreatDoor
open Go.RowKit TraceP

theorem dspanr_calls (L : Nat) (w0 w : World) (g : Nat) (F : Nat → Prop) (s : RdS) (H : DdOK L w0 w g F s) :
    Calls Tryz.prog 97 #[.pointer (some ⟨g, 0, none⟩)] w fun e w' => e = .returned (.agg #[.int .i64 (rSpan s).1.frm, .int .i64 (rSpan s).1.to]) ∧ DReads L w0 g F (rSpan s).2 w w' := by
  have hg := H.lt
  have H0 := (DHold.start H).alloc (.cells #[.int .i64 0, .int .i64 0] 38)
  have bk := Blk.new w 38 #[.int .i64 0, .int .i64 0]
  have C := dnumr_calls L w0 _ g _ s H0.ok
  have C2 := fun W (h : DHold L w0 w g F (rNum s).2 W) => dnumr_calls L w0 W g _ (rNum s).2 h.ok
  obtain ⟨a, s1, q0⟩ : ∃ a s', rNum s = (a, s') := ⟨_, _, rfl⟩
  rw [q0] at C C2
  dsimp only at C C2
  obtain ⟨b, s2, q1⟩ : ∃ a s', rNum s1 = (a, s') := ⟨_, _, rfl⟩
  rw [q1] at C2
  have hR : rSpan s = (⟨a, b⟩, s2) := by unfold rSpan; rw [q0]; dsimp only; rw [q1]
  rw [hR]
  clear hR q0 q1
  dsimp only at C2 ⊢
  go_enter Tryz.func97, Tryz.ntmps97
  go_upto_region 2 with (go_at_call 45; refine C.mono ?_; rintro _ w1 ⟨rfl, R1⟩; have H1 := H0.call R1; have bk1 := bk.rdD R1 (by omega); clear R1 H0 bk C)
  go_wp2_with (go_at_call 45; refine (C2 _ H1).mono ?_; rintro _ w2 ⟨rfl, R2⟩; have H2 := H1.call R2; have bk2 := bk1.rdD R2 (by omega); have k0 := bk2.at_ (i := 0) (v := .int .i64 0) rfl; have k1 := bk2.at_ (i := 1) (v := .int .i64 0) rfl; have f0 := bk2.frozen 0; have f1 := bk2.frozen 1; clear R2 H1 bk1 C2)
  have fin := (H2.set (p := ⟨w.heap.size, 0, none⟩) (Nat.le_refl _) (.int .i64 a)).set (p := ⟨w.heap.size, 1, none⟩) (Nat.le_refl _) (.int .i64 b)
  have bz := (bk2.set_ 0 (.int .i64 a)).set_ 1 (.int .i64 b)
  refine bodyPost_ret (results_cell_row rfl _ _ w.heap.size 38 _ (0, 0) _ rfl bz Tryz.underlying38 rfl (by kernel_rfl)) rfl ?_
  exact ⟨rfl, fin.done⟩
set_option maxRecDepth 100000 in
set_option maxHeartbeats 1600000 in
theorem dtags_read (L : Nat) (w0 w : World) (g : Nat) (F : Nat → Prop) (s : RdS) (H : DdOK L w0 w g F s) :
    Calls Tryz.prog 135 #[.pointer (some ⟨g, 0, none⟩)] w fun e w' => ∃ r : Row Tag, e = .returned r.val ∧ r.l = (rList L rTag s).1 ∧ RowN tgC w.heap.size w' r ∧ DReads L w0 g F (rList L rTag s).2 w w' := by
  have H0 := DHold.start H
  have fewL := H.few
  have hI := rMany_I L s
  have hM := many_le L s
  have C := dmany_calls L w0 w g _ s H0.ok
  have G0 : Hid (pGo rTag (rMany L s).1.toNat [] (rMany L s).2 = rList L rTag s) := Lib.hid rfl
  generalize rMany L s = q at *
  obtain ⟨k0, s1⟩ := q
  dsimp only at G0 hI hM C
  generalize rList L rTag s = fin at *
  go_enter Tryz.func135, Tryz.ntmps135
  go_wp2_with (go_at_call 134; refine C.mono ?_; rintro _ w1 ⟨rfl, R1⟩; have H1 := H0.call R1; clear R1 C H0)
  go_loopw [3, 4] (fun v n wr => ∃ (k : Int) (out : List Tag) (s' : RdS), n = .int .i64 k ∧ I64 k ∧ wr.ownsRow w.heap.size 25 2 v out.length (fl tgC out) ∧ DHold L w0 w g F s' wr ∧ Hid (pGo rTag k.toNat out s' = fin) ∧ out.length + k.toNat ≤ L) (fun _ n _ => (intOf n).toNat)
  case atStart => exact ⟨k0, [], s1, rfl, hI, ⟨rfl, .inl ⟨rfl, rfl⟩⟩, H1, G0, by show 0 + _ ≤ _; omega⟩
  case round =>
    clear hI H1 G0 hM
    obtain ⟨k, out, s', rfl, hI, hown, Hr, G, few⟩ := hrel
    obtain ⟨A0, c0, n0, bk⟩ := Hr.ok.bad_
    have c1 := bk.at_ (i := 2) (v := .bool s'.2) rfl
    obtain ⟨A, c, rfl, hnc, hcm⟩ := own_form hown
    have hlo := Hr.size
    by_cases hk : 0 < k
    · have dk : decide (0 < k) = true := decide_eq_true hk
      cases hb : s'.2
      · rw [hb] at c1
        have g1 := go_succ rTag k out s' hk hb
        have G2 : pGo rTag (k - 1).toNat (out ++ [(rTag s').1]) (rTag s').2 = fin := g1.symm.trans G.out
        have wk : wrap64 (k - 1) = k - 1 := by have := hI.1; have := hI.2; unfold wrap64; omega
        clear g1 G
        have C := dtagr_calls L w0 wr g _ s' Hr.ok
        obtain ⟨a, s2, q2⟩ : ∃ a z, rTag s' = (a, z) := ⟨_, _, rfl⟩
        rw [q2] at C G2
        dsimp only at C G2
        clear q2
        replace G2 := Lib.hid G2
        go_wp2_with (first
          | (go_at_call 98; refine C.mono ?_; rintro _ w2 ⟨rfl, R2⟩; have H2 := Hr.call R2; have own2 := own_frame hown (fun k hk => R2.kept.block k (hown.lt k hk).2 (by have := (hown.lt k hk).1; have := Hr.lt; omega)); clear R2 hown Hr c1 bk C)
          | ((with_reducible show wpList _ _ _ (⟨some 22, _, _, _, _, _⟩ :: _) _ _); refine wpList_append_rv el_tag rfl (.tmp 18) (.tmp 21) rfl w.heap.size _ out.length (fl tgC out) rfl (own_below own2 ((Below.refl _ _).alloc (Nat.le_refl _) _) (fun k hk => (own2.lt k hk).2)) (some ⟨w2.heap.size, 0, none⟩) 1 1 (tgC a) rfl rfl (RV.new w2 (tgC a) 25 (0, 0)) (tgC_one _) ?f2 ?f3 ?f4 ?_))
        case f2 => unfold maxLen; omega
        case f3 => omega
        case f4 => have := H2.size; simp; omega
        intro v' w3 hown' gr hv
        have H3 := H2.more (((Kept.refl (fun k => w.heap.size ≤ k) w2).alloc _).grown gr (fun k hk => .inl (own2.lt k hk).1))
        clear own2 gr hv H2
        go_wp2_with fail
        go_roundw
        case rel => exact ⟨k - 1, out ++ [a], s2, rfl, ⟨by have := hI.1; omega, by have := hI.2; omega⟩, by rw [List.length_append, fl_append, fl_one]; exact hown', H3, G2, by rw [List.length_append, List.length_singleton]; omega⟩
        case measure => simp [intOf]; omega
      · rw [hb] at c1
        have G2 := G.out
        rw [go_zero rTag _ _ _ (.inr hb)] at G2
        clear G
        go_wp2_with fail
        go_ret
        obtain ⟨r, hv, hl, hr⟩ := RowN.of_own (c := tgC) hown
        rw [← G2]
        exact ⟨r, congrArg Ending.returned hv, hl, hr, Hr.done⟩
    · have dk : decide (0 < k) = false := decide_eq_false hk
      have G2 := G.out
      rw [go_zero rTag _ _ _ (.inl (by omega))] at G2
      clear G
      go_wp2_with fail
      go_ret
      obtain ⟨r, hv, hl, hr⟩ := RowN.of_own (c := tgC) hown
      rw [← G2]
      exact ⟨r, congrArg Ending.returned hv, hl, hr, Hr.done⟩
set_option maxRecDepth 100000 in
set_option maxHeartbeats 1600000 in
theorem dwords_read (L : Nat) (w0 w : World) (g : Nat) (F : Nat → Prop) (s : RdS) (H : DdOK L w0 w g F s) :
    Calls Tryz.prog 94 #[.pointer (some ⟨g, 0, none⟩)] w fun e w' => ∃ r : Row Txt, e = .returned r.val ∧ r.l = (rList L rText s).1 ∧ RowN txC w.heap.size w' r ∧ DReads L w0 g F (rList L rText s).2 w w' := by
  have H0 := DHold.start H
  have fewL := H.few
  have hI := rMany_I L s
  have hM := many_le L s
  have C := dmany_calls L w0 w g _ s H0.ok
  have G0 : Hid (pGo rText (rMany L s).1.toNat [] (rMany L s).2 = rList L rText s) := Lib.hid rfl
  generalize rMany L s = q at *
  obtain ⟨k0, s1⟩ := q
  dsimp only at G0 hI hM C
  generalize rList L rText s = fin at *
  go_enter Tryz.func94, Tryz.ntmps94
  go_wp2_with (go_at_call 134; refine C.mono ?_; rintro _ w1 ⟨rfl, R1⟩; have H1 := H0.call R1; clear R1 C H0)
  go_loopw [3, 4] (fun v n wr => ∃ (k : Int) (out : List Txt) (s' : RdS), n = .int .i64 k ∧ I64 k ∧ wr.ownsRow w.heap.size 9 1 v out.length (fl txC out) ∧ DHold L w0 w g F s' wr ∧ Hid (pGo rText k.toNat out s' = fin) ∧ out.length + k.toNat ≤ L) (fun _ n _ => (intOf n).toNat)
  case atStart => exact ⟨k0, [], s1, rfl, hI, ⟨rfl, .inl ⟨rfl, rfl⟩⟩, H1, G0, by show 0 + _ ≤ _; omega⟩
  case round =>
    clear hI H1 G0 hM
    obtain ⟨k, out, s', rfl, hI, hown, Hr, G, few⟩ := hrel
    obtain ⟨A0, c0, n0, bk⟩ := Hr.ok.bad_
    have c1 := bk.at_ (i := 2) (v := .bool s'.2) rfl
    obtain ⟨A, c, rfl, hnc, hcm⟩ := own_form hown
    have hlo := Hr.size
    by_cases hk : 0 < k
    · have dk : decide (0 < k) = true := decide_eq_true hk
      cases hb : s'.2
      · rw [hb] at c1
        have g1 := go_succ rText k out s' hk hb
        have G2 : pGo rText (k - 1).toNat (out ++ [(rText s').1]) (rText s').2 = fin := g1.symm.trans G.out
        have wk : wrap64 (k - 1) = k - 1 := by have := hI.1; have := hI.2; unfold wrap64; omega
        clear g1 G
        have CW := dw_calls L w0 wr g _ s' Hr.ok
        have hsh := Hr.ok.head
        have G3 : pGo rText (k - 1).toNat (out ++ [(rTextW (pWord s').1 (pWord s').2).1]) (rTextW (pWord s').1 (pWord s').2).2 = fin := G2
        clear G2
        obtain ⟨t, sa, qa⟩ : ∃ a z, pWord s' = (a, z) := ⟨_, _, rfl⟩
        rw [qa] at CW G3 hsh
        dsimp only at CW G3 hsh
        have CX := fun W (h : DHold L w0 w g F sa W) => dtextr_calls L w0 W g _ sa h.ok t hsh
        obtain ⟨a, s2, q2⟩ : ∃ a z, rTextW t sa = (a, z) := ⟨_, _, rfl⟩
        rw [q2] at CX G3
        dsimp only at CX G3
        clear q2 qa
        have G2 := Lib.hid G3
        clear G3
        go_wp2_with (first
          | (go_at_call 46; refine CW.mono ?_; rintro _ wA ⟨rfl, R1⟩; have HA := Hr.call R1; have ownA := own_frame hown (fun k hk => R1.kept.block k (hown.lt k hk).2 (by have := (hown.lt k hk).1; have := Hr.lt; omega)); clear R1 hown Hr c1 bk CW)
          | (go_at_call 91; have _q := HA; refine (CX _ HA).mono ?_; rintro _ w2 ⟨rfl, R2⟩; have H2 := HA.call R2; have own2 := own_frame ownA (fun k hk => R2.kept.block k (ownA.lt k hk).2 (by have := (ownA.lt k hk).1; have := HA.lt; omega)); clear R2 ownA HA _q CX)
          | ((with_reducible show wpList _ _ _ (⟨some 24, _, _, _, _, _⟩ :: _) _ _); refine wpList_append_rv el_string rfl (.tmp 18) (.tmp 23) rfl w.heap.size _ out.length (fl txC out) rfl (own_below own2 ((Below.refl _ _).alloc (Nat.le_refl _) _) (fun k hk => (own2.lt k hk).2)) (some ⟨w2.heap.size, 0, none⟩) 1 1 (txC a) rfl rfl (RV.new w2 (txC a) 9 (0, 0)) (txC_one _) ?f2 ?f3 ?f4 ?_))
        case f2 => unfold maxLen; omega
        case f3 => omega
        case f4 => have := H2.size; simp; omega
        intro v' w3 hown' gr hv
        have H3 := H2.more (((Kept.refl (fun k => w.heap.size ≤ k) w2).alloc _).grown gr (fun k hk => .inl (own2.lt k hk).1))
        clear own2 gr hv H2
        go_wp2_with fail
        go_roundw
        case rel => exact ⟨k - 1, out ++ [a], s2, rfl, ⟨by have := hI.1; omega, by have := hI.2; omega⟩, by rw [List.length_append, fl_append, fl_one]; exact hown', H3, G2, by rw [List.length_append, List.length_singleton]; omega⟩
        case measure => simp [intOf]; omega
      · rw [hb] at c1
        have G2 := G.out
        rw [go_zero rText _ _ _ (.inr hb)] at G2
        clear G
        go_wp2_with fail
        go_ret
        obtain ⟨r, hv, hl, hr⟩ := RowN.of_own (c := txC) hown
        rw [← G2]
        exact ⟨r, congrArg Ending.returned hv, hl, hr, Hr.done⟩
    · have dk : decide (0 < k) = false := decide_eq_false hk
      have G2 := G.out
      rw [go_zero rText _ _ _ (.inl (by omega))] at G2
      clear G
      go_wp2_with fail
      go_ret
      obtain ⟨r, hv, hl, hr⟩ := RowN.of_own (c := txC) hown
      rw [← G2]
      exact ⟨r, congrArg Ending.returned hv, hl, hr, Hr.done⟩
end Go.Proofs.YtiokbebodblhaaaGreatDoor
namespace Go.Proofs.YtiokbebodblhaaaGreatDoor
open Go.RowKit TraceP
attribute [local go_sem] Row.val

set_option maxRecDepth 100000 in
set_option maxHeartbeats 3200000 in
theorem dmetr_calls (L : Nat) (w0 w : World) (g : Nat) (F : Nat → Prop) (s : RdS) (H : DdOK L w0 w g F s) :
    Calls Tryz.prog 92 #[.pointer (some ⟨g, 0, none⟩)] w fun e w' => ∃ m : MetR, e = .returned (.agg m.cells.toArray) ∧ m.abs = (rMet L s).1 ∧ RowN txC w.heap.size w' m.keys ∧ DReads L w0 g F (rMet L s).2 w w' := by
  have hg := H.lt
  have H0 := (DHold.start H).alloc (.cells zMetR.cells.toArray 32)
  have bR := Blk.new w 32 zMetR.cells.toArray
  obtain ⟨a0, s1, q0⟩ : ∃ a s', rTag s = (a, s') := ⟨_, _, rfl⟩
  have C := dtagr_calls L w0 _ g _ s H0.ok
  rw [q0] at C
  replace q0 := Lib.hid q0
  go_enter Tryz.func92, Tryz.ntmps92
  go_upto_region 2 with (go_at_call 98; refine C.mono ?_; rintro _ w1 ⟨rfl, R1⟩; have H1 := H0.call R1; have bR1 := bR.rdD R1 (by omega); clear R1 H0 bR C)
  have hgb : g < w1.heap.size := H1.ok.lt
  have hwb : w.heap.size < w1.heap.size := bR1.lt
  have bR2 := bR1.alloc (.cells (MetR.mk a0 0 0 0 0 0 0 noRow [] false).cells.toArray 32)
  have h0 := DHolds.start H1.ok 32 (MetR.mk a0 0 0 0 0 0 0 noRow [] false).cells.toArray
  with_reducible refine code_abs (fun w' => DHolds L w0 (w1.alloc (.cells (MetR.mk a0 0 0 0 0 0 0 noRow [] false).cells.toArray 32)) g w1.heap.size (fun k => F k ∨ w.heap.size ≤ k) 32 s1 (MetR.mk a0 0 0 0 0 0 0 noRow [] false).cells.toArray w') ?_ ?_
  · exact h0
  clear h0 bR1
  rintro v1 h0
  obtain ⟨a1, s2, q1⟩ : ∃ a s', rNum s1 = (a, s') := ⟨_, _, rfl⟩
  have C := dnumr_calls L w0 v1 g _ s1 h0.ok
  rw [q1] at C
  replace q1 := Lib.hid q1
  go_upto_region 3 with (go_at_call 45; refine C.mono ?_; rintro _ w2 ⟨rfl, RB⟩; have h1 := h0.call RB; have k0 := h1.at_ (i := 2) (v := .int .i64 0) rfl; have f0 := h1.blk.frozen 2; clear h0 RB C)
  with_reducible refine code_abs (fun w' => DHolds L w0 (w1.alloc (.cells (MetR.mk a0 0 0 0 0 0 0 noRow [] false).cells.toArray 32)) g w1.heap.size (fun k => F k ∨ w.heap.size ≤ k) 32 s2 (MetR.mk a0 a1 0 0 0 0 0 noRow [] false).cells.toArray w') ?_ ?_
  · exact (h1.set 2 (.int .i64 a1)).to rfl
  clear h1 k0 f0
  rintro v2 h0
  obtain ⟨a2, s3, q2⟩ : ∃ a s', rNum s2 = (a, s') := ⟨_, _, rfl⟩
  have C := dnumr_calls L w0 v2 g _ s2 h0.ok
  rw [q2] at C
  replace q2 := Lib.hid q2
  go_upto_region 4 with (go_at_call 45; refine C.mono ?_; rintro _ w2 ⟨rfl, RB⟩; have h1 := h0.call RB; have k0 := h1.at_ (i := 3) (v := .int .i64 0) rfl; have f0 := h1.blk.frozen 3; clear h0 RB C)
  with_reducible refine code_abs (fun w' => DHolds L w0 (w1.alloc (.cells (MetR.mk a0 0 0 0 0 0 0 noRow [] false).cells.toArray 32)) g w1.heap.size (fun k => F k ∨ w.heap.size ≤ k) 32 s3 (MetR.mk a0 a1 a2 0 0 0 0 noRow [] false).cells.toArray w') ?_ ?_
  · exact (h1.set 3 (.int .i64 a2)).to rfl
  clear h1 k0 f0
  rintro v3 h0
  obtain ⟨a3, s4, q3⟩ : ∃ a s', rNum s3 = (a, s') := ⟨_, _, rfl⟩
  have C := dnumr_calls L w0 v3 g _ s3 h0.ok
  rw [q3] at C
  replace q3 := Lib.hid q3
  go_upto_region 5 with (go_at_call 45; refine C.mono ?_; rintro _ w2 ⟨rfl, RB⟩; have h1 := h0.call RB; have k0 := h1.at_ (i := 4) (v := .int .i64 0) rfl; have f0 := h1.blk.frozen 4; clear h0 RB C)
  with_reducible refine code_abs (fun w' => DHolds L w0 (w1.alloc (.cells (MetR.mk a0 0 0 0 0 0 0 noRow [] false).cells.toArray 32)) g w1.heap.size (fun k => F k ∨ w.heap.size ≤ k) 32 s4 (MetR.mk a0 a1 a2 a3 0 0 0 noRow [] false).cells.toArray w') ?_ ?_
  · exact (h1.set 4 (.int .i64 a3)).to rfl
  clear h1 k0 f0
  rintro v4 h0
  obtain ⟨a4, s5, q4⟩ : ∃ a s', rNum s4 = (a, s') := ⟨_, _, rfl⟩
  have C := dnumr_calls L w0 v4 g _ s4 h0.ok
  rw [q4] at C
  replace q4 := Lib.hid q4
  go_upto_region 6 with (go_at_call 45; refine C.mono ?_; rintro _ w2 ⟨rfl, RB⟩; have h1 := h0.call RB; have k0 := h1.at_ (i := 5) (v := .int .i64 0) rfl; have f0 := h1.blk.frozen 5; clear h0 RB C)
  with_reducible refine code_abs (fun w' => DHolds L w0 (w1.alloc (.cells (MetR.mk a0 0 0 0 0 0 0 noRow [] false).cells.toArray 32)) g w1.heap.size (fun k => F k ∨ w.heap.size ≤ k) 32 s5 (MetR.mk a0 a1 a2 a3 a4 0 0 noRow [] false).cells.toArray w') ?_ ?_
  · exact (h1.set 5 (.int .i64 a4)).to rfl
  clear h1 k0 f0
  rintro v5 h0
  obtain ⟨a5, s6, q5⟩ : ∃ a s', rNum s5 = (a, s') := ⟨_, _, rfl⟩
  have C := dnumr_calls L w0 v5 g _ s5 h0.ok
  rw [q5] at C
  replace q5 := Lib.hid q5
  go_upto_region 7 with (go_at_call 45; refine C.mono ?_; rintro _ w2 ⟨rfl, RB⟩; have h1 := h0.call RB; have k0 := h1.at_ (i := 6) (v := .int .i64 0) rfl; have f0 := h1.blk.frozen 6; clear h0 RB C)
  with_reducible refine code_abs (fun w' => DHolds L w0 (w1.alloc (.cells (MetR.mk a0 0 0 0 0 0 0 noRow [] false).cells.toArray 32)) g w1.heap.size (fun k => F k ∨ w.heap.size ≤ k) 32 s6 (MetR.mk a0 a1 a2 a3 a4 a5 0 noRow [] false).cells.toArray w') ?_ ?_
  · exact (h1.set 6 (.int .i64 a5)).to rfl
  clear h1 k0 f0
  rintro v6 h0
  obtain ⟨a6, s7, q6⟩ : ∃ a s', rNum s6 = (a, s') := ⟨_, _, rfl⟩
  have C := dnumr_calls L w0 v6 g _ s6 h0.ok
  rw [q6] at C
  replace q6 := Lib.hid q6
  go_upto_region 8 with (go_at_call 45; refine C.mono ?_; rintro _ w2 ⟨rfl, RB⟩; have h1 := h0.call RB; have k0 := h1.at_ (i := 7) (v := .int .i64 0) rfl; have f0 := h1.blk.frozen 7; clear h0 RB C)
  with_reducible refine code_abs (fun w' => DHolds L w0 (w1.alloc (.cells (MetR.mk a0 0 0 0 0 0 0 noRow [] false).cells.toArray 32)) g w1.heap.size (fun k => F k ∨ w.heap.size ≤ k) 32 s7 (MetR.mk a0 a1 a2 a3 a4 a5 a6 noRow [] false).cells.toArray w') ?_ ?_
  · exact (h1.set 7 (.int .i64 a6)).to rfl
  clear h1 k0 f0
  rintro v7 h0
  obtain ⟨a7, s8, q7⟩ : ∃ a s', rList L rText s7 = (a, s') := ⟨_, _, rfl⟩
  have C := dwords_read L w0 v7 g _ s7 h0.ok
  rw [q7] at C
  replace q7 := Lib.hid q7
  go_upto_region 9 with (go_at_call 94; refine C.mono ?_; rintro _ w2 ⟨r7, rfl, l7, m7, RB⟩; have h1 := h0.call RB; replace l7 := Lib.hid l7; have n7 := m7.older (B' := w1.heap.size + 1) (by have := h0.size; omega); have k0 := h1.at_ (i := 8) (v := .slice none 0 0) rfl; have f0 := h1.blk.frozen 8; clear h0 RB C m7)
  with_reducible refine code_abs (fun w' => DHolds L w0 (w1.alloc (.cells (MetR.mk a0 0 0 0 0 0 0 noRow [] false).cells.toArray 32)) g w1.heap.size (fun k => F k ∨ w.heap.size ≤ k) 32 s8 (MetR.mk a0 a1 a2 a3 a4 a5 a6 r7 [] false).cells.toArray w' ∧ RowN txC (w1.heap.size + 1) w' r7) ?_ ?_
  · exact ⟨(h1.set 8 (.slice r7.A r7.l.length r7.cap)).to rfl, (n7.cell (p := ⟨w1.heap.size, 8, none⟩) (Nat.lt_succ_self _) (.slice r7.A r7.l.length r7.cap))⟩
  clear h1 k0 f0 n7
  rintro v8 ⟨h0, n7⟩
  obtain ⟨a8, s9, q8⟩ : ∃ a s', rText s8 = (a, s') := ⟨_, _, rfl⟩
  have CW := dw_calls L w0 v8 g _ s8 h0.ok
  have hsh := h0.ok.head
  have G3 : rTextW (pWord s8).1 (pWord s8).2 = (a8, s9) := q8
  replace q8 := Lib.hid q8
  obtain ⟨tt, sa, qa⟩ : ∃ a z, pWord s8 = (a, z) := ⟨_, _, rfl⟩
  rw [qa] at CW G3 hsh
  dsimp only at CW G3 hsh
  have CX := fun W (h : DdOK L w0 W g _ sa) => dtextr_calls L w0 W g (fun k => (fun k => F k ∨ w.heap.size ≤ k) k ∨ w1.heap.size ≤ k) sa h tt hsh
  rw [G3] at CX
  dsimp only at CX
  clear G3 qa
  go_upto_region 10 with (first | (go_at_call 46; refine CW.mono ?_; rintro _ wA ⟨rfl, RA⟩; have hA := h0.call RA; have n7 := n7.kept RA.kept (fun k hk => by omega); clear h0 RA CW) | (go_at_call 91; have _q := hA; refine (CX _ hA.ok).mono ?_; rintro _ w2 ⟨rfl, RB⟩; have h1 := hA.call RB; have n7 := n7.kept RB.kept (fun k hk => by omega); have k0 := h1.at_ (i := 9) (v := .string ⟨#[]⟩) rfl; have f0 := h1.blk.frozen 9; clear hA _q RB CX))
  with_reducible refine code_abs (fun w' => DHolds L w0 (w1.alloc (.cells (MetR.mk a0 0 0 0 0 0 0 noRow [] false).cells.toArray 32)) g w1.heap.size (fun k => F k ∨ w.heap.size ≤ k) 32 s9 (MetR.mk a0 a1 a2 a3 a4 a5 a6 r7 a8 false).cells.toArray w' ∧ RowN txC (w1.heap.size + 1) w' r7) ?_ ?_
  · exact ⟨(h1.set 9 (.string (bstr a8))).to rfl, (n7.cell (p := ⟨w1.heap.size, 9, none⟩) (Nat.lt_succ_self _) (.string (bstr a8)))⟩
  clear h1 k0 f0 n7
  rintro v9 ⟨h0, n7⟩
  obtain ⟨a9, s10, q9⟩ : ∃ a s', rTruth s9 = (a, s') := ⟨_, _, rfl⟩
  have C := dtruth_calls L w0 v9 g _ s9 h0.ok
  rw [q9] at C
  replace q9 := Lib.hid q9
  go_upto_region 11 with (go_at_call 93; refine C.mono ?_; rintro _ w2 ⟨rfl, RB⟩; have h1 := h0.call RB; have n7 := n7.kept RB.kept (fun k hk => by omega); have k0 := h1.at_ (i := 10) (v := .bool false) rfl; have f0 := h1.blk.frozen 10; clear h0 RB C)
  with_reducible refine code_abs (fun w' => DHolds L w0 (w1.alloc (.cells (MetR.mk a0 0 0 0 0 0 0 noRow [] false).cells.toArray 32)) g w1.heap.size (fun k => F k ∨ w.heap.size ≤ k) 32 s10 (MetR.mk a0 a1 a2 a3 a4 a5 a6 r7 a8 a9).cells.toArray w' ∧ RowN txC (w1.heap.size + 1) w' r7) ?_ ?_
  · exact ⟨(h1.set 10 (.bool a9)).to rfl, (n7.cell (p := ⟨w1.heap.size, 10, none⟩) (Nat.lt_succ_self _) (.bool a9))⟩
  clear h1 k0 f0 n7
  rintro v10 ⟨h0, n7⟩
  have hR := h0.older bR2 (by omega) (by omega)
  have hX := h0.blk
  have hR' : v10.heap[w.heap.size]? = some (Obj.cells zMetR.cells.toArray 32) := hR
  have hX' : v10.heap[w1.heap.size]? = some (Obj.cells (MetR.mk a0 a1 a2 a3 a4 a5 a6 r7 a8 a9).cells.toArray 32) := hX
  with_reducible refine wp_region_lit ?_
  with_reducible refine wpList_load_row rfl 32 (.tmp 3) rfl w1.heap.size (by kernel_rfl) 32 (MetR.mk a0 a1 a2 a3 a4 a5 a6 r7 a8 a9).cells.toArray (0, 0) _ hX' Tryz.underlying32 (by kernel_rfl) (by kernel_rfl) ?_
  go_frame
  with_reducible refine wpList_store_row rfl 32 (.tmp 2) (.tmp 36) rfl w.heap.size (MetR.mk a0 a1 a2 a3 a4 a5 a6 r7 a8 a9).cells.toArray (by kernel_rfl) (by kernel_rfl) 32 zMetR.cells.toArray hR' (by kernel_rfl) (by kernel_rfl) (by kernel_rfl) (wpList_nil ?_)
  have bT : (v10.setRow (w.heap.size) (MetR.mk a0 a1 a2 a3 a4 a5 a6 r7 a8 a9).cells.toArray).heap[w.heap.size]? = some (Obj.cells (MetR.mk a0 a1 a2 a3 a4 a5 a6 r7 a8 a9).cells.toArray 32) := hR.setRow_ _
  simp only [Act.put]
  repeat go_step
  (try simp only [Exit.inBlock, Exit.then])
  refine bodyPost_ret (results_cell_row rfl _ _ (w.heap.size) 32 (MetR.mk a0 a1 a2 a3 a4 a5 a6 r7 a8 a9).cells.toArray (0, 0) _ (by kernel_rfl) bT Tryz.underlying32 (by kernel_rfl) (by kernel_rfl)) rfl ?_
  have hH := (H1.call h0.done).setRow (Nat.le_refl w.heap.size) (MetR.mk a0 a1 a2 a3 a4 a5 a6 r7 a8 a9).cells.toArray
  have e : rMet L s = (⟨a0, a1, a2, a3, a4, a5, a6, r7.l, a8, a9⟩, s10) := by unfold rMet; simp only [q0.out, q1.out, q2.out, q3.out, q4.out, q5.out, q6.out, q7.out, q8.out, q9.out, l7.out]
  rw [e]
  exact ⟨(MetR.mk a0 a1 a2 a3 a4 a5 a6 r7 a8 a9), rfl, rfl, (n7.setRow (by omega) _).older (by omega), hH.done⟩
end Go.Proofs.YtiokbebodblhaaaGreatDoor
