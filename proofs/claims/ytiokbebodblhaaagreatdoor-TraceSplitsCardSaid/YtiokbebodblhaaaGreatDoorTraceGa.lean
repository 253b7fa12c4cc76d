/-
  Walk of the document's reader: an answer. Printed by docas.py.
-/
import Derived.Test.YtiokbebodblhaaaGreatDoorTraceGq
namespace Go.Proofs.YtiokbebodblhaaaGreatDoor
open Go.RowKit TraceP
attribute [local go_sem] Row.val

/-- A row that lies in none of F's blocks. -/
structure RowF {α : Type} (c : α → List Value) (F : Nat → Prop) (w : World) (r : Row α) : Prop where
  le : r.l.length ≤ r.cap
  cap : r.cap ≤ 9223372036854775807
  rv : RVF w F r.A (fl c r.l)
theorem RowF.kept {α : Type} {c : α → List Value} {F G : Nat → Prop} {w w' : World} {r : Row α} (h : RowF c F w r) (K : Kept G w w') (hG : ∀ k, G k → F k) : RowF c F w' r := ⟨h.le, h.cap, h.rv.kept (K.mono fun k _ hk => hG k hk)⟩
theorem RowN.rowF {α : Type} {c : α → List Value} {B : Nat} {w : World} {r : Row α} (h : RowN c B w r) : RowF c (fun k => k < B ∨ w.heap.size ≤ k) w r := ⟨h.le, h.cap, h.rv.mono fun k hk hF => hF.elim id (fun h => by omega)⟩
theorem RowF.rowN {α : Type} {c : α → List Value} {B N : Nat} {w : World} {r : Row α} (h : RowF c (fun k => k < B ∨ N ≤ k) w r) : RowN c B w r := ⟨h.le, h.cap, h.rv.mono fun _k _ hk => .inl hk⟩
set_option maxRecDepth 100000 in
set_option maxHeartbeats 3200000 in
theorem dansr_calls (L : Nat) (w0 w : World) (g : Nat) (F : Nat → Prop) (s : RdS) (H : DdOK L w0 w g F s) :
    Calls Tryz.prog 96 #[.pointer (some ⟨g, 0, none⟩)] w fun e w' => ∃ r : AnsR, e = .returned (.agg r.cells.toArray) ∧ r.abs = (rAns L s).1 ∧ RowN fdC w.heap.size w' r.fields ∧ RowN ptC w.heap.size w' r.parts ∧ DReads L w0 g F (rAns L s).2 w w' := by
  have hg := H.lt
  have H0 := (DHold.start H).alloc (.cells zAnsR.cells.toArray 36)
  have bR := Blk.new w 36 zAnsR.cells.toArray
  obtain ⟨a0, s1, q0⟩ : ∃ a s', rNum s = (a, s') := ⟨_, _, rfl⟩
  have C := dnumr_calls L w0 _ g _ s H0.ok
  rw [q0] at C
  replace q0 := Lib.hid q0
  go_enter Tryz.func96, Tryz.ntmps96
  go_upto_region 2 with (go_at_call 45; refine C.mono ?_; rintro _ w1 ⟨rfl, R1⟩; have H1 := H0.call R1; have bR1 := bR.rdD R1 (by omega); clear R1 H0 bR C)
  have hgb : g < w1.heap.size := H1.ok.lt
  have hwb : w.heap.size < w1.heap.size := bR1.lt
  have bR2 := bR1.alloc (.cells (AnsR.mk a0 noRow noRow 0).cells.toArray 36)
  have h0 := DHolds.start H1.ok 36 (AnsR.mk a0 noRow noRow 0).cells.toArray
  with_reducible refine code_abs (fun w' => DHolds L w0 (w1.alloc (.cells (AnsR.mk a0 noRow noRow 0).cells.toArray 36)) g w1.heap.size (fun k => F k ∨ w.heap.size ≤ k) 36 s1 (AnsR.mk a0 noRow noRow 0).cells.toArray w') ?_ ?_
  · exact h0
  clear h0 bR1
  rintro v1 h0
  have hw1 : (w1.alloc (.cells (AnsR.mk a0 noRow noRow 0).cells.toArray 36)).heap.size = w1.heap.size + 1 := by simp
  have fewL := H.few
  have hI := rMany_I L s1
  have hM := many_le L s1
  have C := dmany_calls L w0 v1 g _ s1 h0.ok
  have G0 : Hid (pGo rFld (rMany L s1).1.toNat [] (rMany L s1).2 = rList L rFld s1) := Lib.hid rfl
  obtain ⟨a1, s2, q1⟩ : ∃ a s', rList L rFld s1 = (a, s') := ⟨_, _, rfl⟩
  rw [q1] at G0
  replace q1 := Lib.hid q1
  generalize rMany L s1 = qm at *
  obtain ⟨k0, sm⟩ := qm
  dsimp only at G0 hI hM C
  go_wp2_with (go_at_call 134; refine C.mono ?_; rintro _ vv ⟨rfl, RM⟩; have h1 := h0.call RM; clear RM C h0)
  have hvz := h1.size
  go_loopw [4] (fun n wr => ∃ (k : Int) (r : Row Fld) (s' : RdS), n = .int .i64 k ∧ I64 k ∧ DHolds L w0 (w1.alloc (.cells (AnsR.mk a0 noRow noRow 0).cells.toArray 36)) g w1.heap.size (fun k => F k ∨ w.heap.size ≤ k) 36 s' (AnsR.mk a0 r noRow 0).cells.toArray wr ∧ wr.ownsRow vv.heap.size 76 2 r.val r.l.length (fl fdC r.l) ∧ Hid (pGo rFld k.toNat r.l s' = (a1, s2)) ∧ r.l.length + k.toNat ≤ L ∧ vv.heap.size ≤ wr.heap.size) (fun n _ => (intOf n).toNat)
  case atStart => exact ⟨k0, noRow, sm, rfl, hI, h1, ⟨rfl, .inl ⟨rfl, rfl⟩⟩, G0, (by show 0 + _ ≤ _; omega), Nat.le_refl _⟩
  case round =>
    clear hI h1 G0 hM
    obtain ⟨k, r, s', rfl, hI, h0, hown, GG, few, hvs⟩ := hrel
    obtain ⟨A0, c0, n0, bk⟩ := h0.ok.bad_
    have c1 := bk.at_ (i := 2) (v := .bool s'.2) rfl
    have hlo := h0.size
    by_cases hk : 0 < k
    · have dk : decide (0 < k) = true := decide_eq_true hk
      cases hb : s'.2
      · rw [hb] at c1
        have g1 := go_succ rFld k r.l s' hk hb
        have G2 : pGo rFld (k - 1).toNat (r.l ++ [(rFld s').1]) (rFld s').2 = (a1, s2) := g1.symm.trans GG.out
        have wk : wrap64 (k - 1) = k - 1 := by have := hI.1; have := hI.2; unfold wrap64; omega
        clear g1 GG
        have G3 : pGo rFld (k - 1).toNat (r.l ++ [⟨(rTextW (pWord s').1 (pWord s').2).1, (rTextW (pWord (rTextW (pWord s').1 (pWord s').2).2).1 (pWord (rTextW (pWord s').1 (pWord s').2).2).2).1⟩]) (rTextW (pWord (rTextW (pWord s').1 (pWord s').2).2).1 (pWord (rTextW (pWord s').1 (pWord s').2).2).2).2 = (a1, s2) := G2
        clear G2
        have CW := dw_calls L w0 wr g _ s' h0.ok
        have hsh := h0.ok.head
        obtain ⟨tt, sa, qa⟩ : ∃ a z, pWord s' = (a, z) := ⟨_, _, rfl⟩
        rw [qa] at CW G3 hsh
        dsimp only at CW G3 hsh
        have CX := fun W (h : DdOK L w0 W g (fun k => (fun k => F k ∨ w.heap.size ≤ k) k ∨ w1.heap.size ≤ k) sa) => dtextr_calls L w0 W g (fun k => (fun k => F k ∨ w.heap.size ≤ k) k ∨ w1.heap.size ≤ k) sa h tt hsh
        obtain ⟨nm, sb, qb⟩ : ∃ a z, rTextW tt sa = (a, z) := ⟨_, _, rfl⟩
        rw [qb] at CX G3
        dsimp only at CX G3
        clear qa qb
        go_upto_region 6 with (first | (go_at_call 46; refine CW.mono ?_; rintro _ wA ⟨rfl, RA⟩; have hA := h0.call RA; have ownA := own_frame hown (fun k hk => RA.kept.block k (hown.lt k hk).2 (by have := (hown.lt k hk).1; omega)); have hvs := Nat.le_trans hvs RA.kept.size; clear RA h0 hown CW c1 bk) | (go_at_call 91; have _q := hA; refine (CX _ hA.ok).mono ?_; rintro _ w2 ⟨rfl, RB⟩; have hB := hA.call RB; have ownB := own_frame ownA (fun k hk => RB.kept.block k (ownA.lt k hk).2 (by have := (ownA.lt k hk).1; omega)); have hvs := Nat.le_trans hvs RB.kept.size; clear RB hA _q ownA CX))
        with_reducible refine code_abs (fun w' => DHolds L w0 (w1.alloc (.cells (AnsR.mk a0 noRow noRow 0).cells.toArray 36)) g w1.heap.size (fun k => F k ∨ w.heap.size ≤ k) 36 sb (AnsR.mk a0 r noRow 0).cells.toArray w' ∧ w'.ownsRow vv.heap.size 76 2 r.val r.l.length (fl fdC r.l) ∧ vv.heap.size ≤ w'.heap.size) ?_ ?_
        · exact ⟨hB, ownB, hvs⟩
        clear hB ownB hlo
        rintro wr ⟨h0, hown, hvs⟩
        have hlo := h0.size
        have h0d := h0.drew
        have CW := dw_calls L w0 _ g _ sb h0d.ok
        have hsh := h0.ok.head
        obtain ⟨t2, sc, qa⟩ : ∃ a z, pWord sb = (a, z) := ⟨_, _, rfl⟩
        rw [qa] at CW G3 hsh
        dsimp only at CW G3 hsh
        have CX := fun W (h : DdOK L w0 W g (fun k => (fun k => F k ∨ w.heap.size ≤ k) k ∨ w1.heap.size ≤ k) sc) => dtextr_calls L w0 W g (fun k => (fun k => F k ∨ w.heap.size ≤ k) k ∨ w1.heap.size ≤ k) sc h t2 hsh
        obtain ⟨vl, sd, qb⟩ : ∃ a z, rTextW t2 sc = (a, z) := ⟨_, _, rfl⟩
        rw [qb] at CX G3
        dsimp only at CX G3
        clear qa qb
        obtain ⟨rA, rc, rl⟩ := r
        dsimp only at few G3
        have G2 := Lib.hid G3
        clear G3
        have k1 := h0.at_ (i := 1) (v := .slice rA rl.length rc) rfl
        have k1d := h0d.at_ (i := 1) (v := .slice rA rl.length rc) rfl
        have hown' : wr.ownsRow vv.heap.size 76 2 (.slice rA rl.length rc) rl.length (fl fdC rl) := hown
        have hownd := own_below hown' ((Below.refl wr.heap.size wr).drew) (fun k hk => (hown'.lt k hk).2)
        obtain ⟨A', c', hsl, hnc, hcm⟩ := own_form hown'
        clear hsl hown hown'
        go_region_law (first | (go_simp; go_at_call 46; refine CW.mono ?_; rintro _ wA ⟨rfl, RA⟩; have hA := h0d.call RA; have ownA := own_frame hownd (fun k hk => RA.kept.block k (hownd.lt k hk).2 (by have := (hownd.lt k hk).1; omega)); have hvs := Nat.le_trans hvs RA.kept.size; have kA := hA.at_ (i := 1) (v := .slice rA rl.length rc) rfl; clear RA h0d hownd CW k1d k1) | (go_simp; go_at_call 91; have _q := hA; refine (CX _ hA.ok).mono ?_; rintro _ w2 ⟨rfl, RB⟩; have hB := hA.call RB; have ownB := own_frame ownA (fun k hk => RB.kept.block k (ownA.lt k hk).2 (by have := (ownA.lt k hk).1; omega)); have hvs := Nat.le_trans hvs RB.kept.size; have kB := hB.at_ (i := 1) (v := .slice rA rl.length rc) rfl; have kBa := (hB.below (below_new w2 (.cells #[.string (bstr nm), .string (bstr vl)] 76))).at_ (i := 1) (v := .slice rA rl.length rc) rfl; have hs2 := hB.size; have own4 := own_below ownB (below_new w2 (.cells (fdC ⟨nm, vl⟩).toArray 76)) (fun k hk => (ownB.lt k hk).2); have rv4 := RV.new w2 (fdC ⟨nm, vl⟩) 76 (0, 0); clear RB hA _q ownA CX kA) | (refine step_append_rv (A := some ⟨w2.heap.size, 0, none⟩) (m := 1) (c := 1) (news := fdC ⟨nm, vl⟩) el_field rfl (.tmp 29) (.tmp 36) rfl rfl own4 rfl rfl rv4 (fdC_one _) (by unfold maxLen; omega) (by omega) (by first | omega | (simp; omega)) ?_; intro v' w4 own5 gr hv; have h4 := hB.more (((Kept.refl (fun k => (w1.alloc (.cells (AnsR.mk a0 noRow noRow 0).cells.toArray 36)).heap.size ≤ k) w2).alloc _).grown gr (fun k hk => .inl (by rw [hw1]; have := (ownB.lt k hk).1; omega))); have hz4 : vv.heap.size ≤ w4.heap.size := Nat.le_trans hvs (((Kept.refl (fun k => vv.heap.size ≤ k) w2).alloc _).grown gr (fun k hk => .inl (ownB.lt k hk).1)).size; have k4 := h4.at_ (i := 1) (v := .slice rA rl.length rc) rfl; have f4 := h4.blk.frozen 1; obtain ⟨A5, c5, rfl, hnc5, hcm5⟩ := own_form own5; clear gr hv hB ownB own4 rv4 kB kBa))
        all_goals
          (go_wp2_with fail
           go_roundw
           case rel => exact ⟨k - 1, ⟨A5, c5, rl ++ [⟨nm, vl⟩]⟩, sd, rfl, ⟨by have := hI.1; omega, by have := hI.2; omega⟩, ((h4.set 1 (.slice A5 (rl.length + 1) c5)).to (by simp [AnsR.cells, Row.val, noRow, List.length_append])), by rw [show (Row.mk A5 c5 (rl ++ [⟨nm, vl⟩])).val = .slice A5 (rl.length + 1) c5 by simp [Row.val], show (Row.mk A5 c5 (rl ++ [⟨nm, vl⟩])).l.length = rl.length + 1 by simp, show (Row.mk A5 c5 (rl ++ [⟨nm, vl⟩])).l = rl ++ [⟨nm, vl⟩] from rfl, fl_append, fl_one]; exact own_frame own5 (fun k hk => heap_setCell_other _ _ _ _ (by have := (own5.lt k hk).1; show k ≠ w1.heap.size; omega)), G2, (by dsimp only; rw [List.length_append, List.length_singleton]; omega), (by simp; exact hz4)⟩
           case measure => simp [intOf]; omega)
      · rw [hb] at c1
        have G2 := GG.out
        rw [go_zero rFld _ _ _ (.inr hb)] at G2
        injection G2 with g1 g2
        subst g1 g2
        have nr : RowN fdC (w1.heap.size + 1) wr r := ⟨by obtain ⟨A', c', hv, h1, h2⟩ := own_form hown; unfold Row.val at hv; injection hv with _ _ e3; rw [e3]; exact h1, by obtain ⟨A', c', hv, h1, h2⟩ := own_form hown; unfold Row.val at hv; injection hv with _ _ e3; rw [e3]; exact h2, RVF.of_own hown (fun i hi => .inl (by omega))⟩
        clear GG hown few hI
        go_upto_region 7 with (fail)
        clear c1 bk dk
        obtain ⟨r1, hr2⟩ : ∃ x, x = r := ⟨_, rfl⟩
        rw [← hr2] at q1 nr h0
        with_reducible refine code_abs (fun w' => DHolds L w0 (w1.alloc (.cells (AnsR.mk a0 noRow noRow 0).cells.toArray 36)) g w1.heap.size (fun k => F k ∨ w.heap.size ≤ k) 36 s' (AnsR.mk a0 r1 noRow 0).cells.toArray w' ∧ RowN fdC (w1.heap.size + 1) w' r1) ?_ ?_
        · exact ⟨h0, nr⟩
        clear h0 nr hr2 hvs hb
        rintro v2 ⟨h0, n1⟩
        obtain ⟨s2, hs3⟩ : ∃ x, x = s' := ⟨_, rfl⟩
        rw [← hs3] at h0 q1
        clear hs3
        have hI := rMany_I L s2
        have hM := many_le L s2
        have C := dmany_calls L w0 v2 g _ s2 h0.ok
        have G0 : Hid (pGo rPrt (rMany L s2).1.toNat [] (rMany L s2).2 = rList L rPrt s2) := Lib.hid rfl
        obtain ⟨a2, s3, q2⟩ : ∃ a s', rList L rPrt s2 = (a, s') := ⟨_, _, rfl⟩
        rw [q2] at G0
        replace q2 := Lib.hid q2
        generalize rMany L s2 = qm at *
        obtain ⟨k0, sm⟩ := qm
        dsimp only at G0 hI hM C
        go_wp2_with (go_at_call 134; refine C.mono ?_; rintro _ vv ⟨rfl, RM⟩; have h1 := h0.call RM; have n1 := n1.kept RM.kept (fun k hk => by omega); clear RM C h0)
        have hvz := h1.size
        have n1 := n1.rowF
        go_loopw [6] (fun n wr => ∃ (k : Int) (r : Row Prt) (s' : RdS), n = .int .i64 k ∧ I64 k ∧ DHolds L w0 (w1.alloc (.cells (AnsR.mk a0 noRow noRow 0).cells.toArray 36)) g w1.heap.size (fun k => F k ∨ w.heap.size ≤ k) 36 s' (AnsR.mk a0 r1 r 0).cells.toArray wr ∧ wr.ownsRow vv.heap.size 78 3 r.val r.l.length (fl ptC r.l) ∧ Hid (pGo rPrt k.toNat r.l s' = (a2, s3)) ∧ r.l.length + k.toNat ≤ L ∧ vv.heap.size ≤ wr.heap.size ∧ RowF fdC (fun k => k < w1.heap.size + 1 ∨ vv.heap.size ≤ k) wr r1) (fun n _ => (intOf n).toNat)
        case atStart => exact ⟨k0, noRow, sm, rfl, hI, h1, ⟨rfl, .inl ⟨rfl, rfl⟩⟩, G0, (by show 0 + _ ≤ _; omega), Nat.le_refl _, n1⟩
        case round =>
          clear hI h1 G0 hM n1
          obtain ⟨k, r, s', rfl, hI, h0, hown, GG, few, hvs, n1⟩ := hrel
          obtain ⟨A0, c0, n0, bk⟩ := h0.ok.bad_
          have c1 := bk.at_ (i := 2) (v := .bool s'.2) rfl
          have hlo := h0.size
          by_cases hk : 0 < k
          · have dk : decide (0 < k) = true := decide_eq_true hk
            cases hb : s'.2
            · rw [hb] at c1
              have g1 := go_succ rPrt k r.l s' hk hb
              have G2 : pGo rPrt (k - 1).toNat (r.l ++ [(rPrt s').1]) (rPrt s').2 = (a2, s3) := g1.symm.trans GG.out
              have wk : wrap64 (k - 1) = k - 1 := by have := hI.1; have := hI.2; unfold wrap64; omega
              clear g1 GG
              have G3 : pGo rPrt (k - 1).toNat (r.l ++ [⟨(rTextW (pWord s').1 (pWord s').2).1, (rSpan (rTextW (pWord s').1 (pWord s').2).2).1⟩]) (rSpan (rTextW (pWord s').1 (pWord s').2).2).2 = (a2, s3) := G2
              clear G2
              have CW := dw_calls L w0 wr g _ s' h0.ok
              have hsh := h0.ok.head
              obtain ⟨tt, sa, qa⟩ : ∃ a z, pWord s' = (a, z) := ⟨_, _, rfl⟩
              rw [qa] at CW G3 hsh
              dsimp only at CW G3 hsh
              have CX := fun W (h : DdOK L w0 W g (fun k => (fun k => F k ∨ w.heap.size ≤ k) k ∨ w1.heap.size ≤ k) sa) => dtextr_calls L w0 W g (fun k => (fun k => F k ∨ w.heap.size ≤ k) k ∨ w1.heap.size ≤ k) sa h tt hsh
              obtain ⟨nm, sb, qb⟩ : ∃ a z, rTextW tt sa = (a, z) := ⟨_, _, rfl⟩
              rw [qb] at CX G3
              dsimp only at CX G3
              clear qa qb
              go_upto_region 11 with (first | (go_at_call 46; refine CW.mono ?_; rintro _ wA ⟨rfl, RA⟩; have hA := h0.call RA; have ownA := own_frame hown (fun k hk => RA.kept.block k (hown.lt k hk).2 (by have := (hown.lt k hk).1; omega)); have hvs := Nat.le_trans hvs RA.kept.size; have n1 := n1.kept RA.kept (fun k hk => .inl (by omega)); clear RA h0 hown CW c1 bk) | (go_at_call 91; have _q := hA; refine (CX _ hA.ok).mono ?_; rintro _ w2 ⟨rfl, RB⟩; have hB := hA.call RB; have ownB := own_frame ownA (fun k hk => RB.kept.block k (ownA.lt k hk).2 (by have := (ownA.lt k hk).1; omega)); have hvs := Nat.le_trans hvs RB.kept.size; have n1 := n1.kept RB.kept (fun k hk => .inl (by omega)); clear RB hA _q ownA CX))
              with_reducible refine code_abs (fun w' => DHolds L w0 (w1.alloc (.cells (AnsR.mk a0 noRow noRow 0).cells.toArray 36)) g w1.heap.size (fun k => F k ∨ w.heap.size ≤ k) 36 sb (AnsR.mk a0 r1 r 0).cells.toArray w' ∧ w'.ownsRow vv.heap.size 78 3 r.val r.l.length (fl ptC r.l) ∧ vv.heap.size ≤ w'.heap.size ∧ RowF fdC (fun k => k < w1.heap.size + 1 ∨ vv.heap.size ≤ k) w' r1) ?_ ?_
              · exact ⟨hB, ownB, hvs, n1⟩
              clear hB ownB hlo n1
              rintro wr ⟨h0, hown, hvs, n1⟩
              have hlo := h0.size
              have h0d := h0.drew
              have CW := dspanr_calls L w0 _ g _ sb h0d.ok
              obtain ⟨vl, sd, qa⟩ : ∃ a z, rSpan sb = (a, z) := ⟨_, _, rfl⟩
              rw [qa] at CW G3
              dsimp only at CW G3
              clear qa
              obtain ⟨rA, rc, rl⟩ := r
              dsimp only at few G3
              have G2 := Lib.hid G3
              clear G3
              have k1 := h0.at_ (i := 2) (v := .slice rA rl.length rc) rfl
              have k1d := h0d.at_ (i := 2) (v := .slice rA rl.length rc) rfl
              have hown' : wr.ownsRow vv.heap.size 78 3 (.slice rA rl.length rc) rl.length (fl ptC rl) := hown
              have hownd := own_below hown' ((Below.refl wr.heap.size wr).drew) (fun k hk => (hown'.lt k hk).2)
              obtain ⟨A', c', hsl, hnc, hcm⟩ := own_form hown'
              clear hsl hown hown'
              have n1 := n1.kept (Kept.of_below ((Below.refl wr.heap.size wr).drew) (fun _ => False)) (fun k hk => hk.elim)
              go_region_law (first | (go_simp; go_at_call 97; refine CW.mono ?_; rintro _ w2 ⟨rfl, RB⟩; have hB := h0d.call RB; have ownB := own_frame hownd (fun k hk => RB.kept.block k (hownd.lt k hk).2 (by have := (hownd.lt k hk).1; omega)); have hvs := Nat.le_trans hvs RB.kept.size; have n1 := n1.kept RB.kept (fun k hk => .inl (by omega)); have kB := hB.at_ (i := 2) (v := .slice rA rl.length rc) rfl; have kBa := (hB.below (below_new w2 (.cells #[.string (bstr nm), .int .i64 vl.frm, .int .i64 vl.to] 78))).at_ (i := 2) (v := .slice rA rl.length rc) rfl; have hs2 := hB.size; have own4 := own_below ownB (below_new w2 (.cells (ptC ⟨nm, vl⟩).toArray 78)) (fun k hk => (ownB.lt k hk).2); have rv4 := RV.new w2 (ptC ⟨nm, vl⟩) 78 (0, 0); clear RB h0d hownd CW k1d k1) | (refine step_append_rv (A := some ⟨w2.heap.size, 0, none⟩) (m := 1) (c := 1) (news := ptC ⟨nm, vl⟩) el_part rfl (.tmp 57) (.tmp 62) rfl rfl own4 rfl rfl rv4 (ptC_one _) (by unfold maxLen; omega) (by omega) (by first | omega | (simp; omega)) ?_; intro v' w4 own5 gr hv; have h4 := hB.more (((Kept.refl (fun k => (w1.alloc (.cells (AnsR.mk a0 noRow noRow 0).cells.toArray 36)).heap.size ≤ k) w2).alloc _).grown gr (fun k hk => .inl (by rw [hw1]; have := (ownB.lt k hk).1; omega))); have hz4 : vv.heap.size ≤ w4.heap.size := Nat.le_trans hvs (((Kept.refl (fun k => vv.heap.size ≤ k) w2).alloc _).grown gr (fun k hk => .inl (ownB.lt k hk).1)).size; have n1 := n1.kept (((Kept.refl (fun k => vv.heap.size ≤ k) w2).alloc _).grown gr (fun k hk => .inl (ownB.lt k hk).1)) (fun k hk => .inr hk); have k4 := h4.at_ (i := 2) (v := .slice rA rl.length rc) rfl; have f4 := h4.blk.frozen 2; obtain ⟨A5, c5, rfl, hnc5, hcm5⟩ := own_form own5; clear gr hv hB ownB own4 rv4 kB kBa))
              all_goals
                (go_wp2_with fail
                 go_roundw
                 case rel => exact ⟨k - 1, ⟨A5, c5, rl ++ [⟨nm, vl⟩]⟩, sd, rfl, ⟨by have := hI.1; omega, by have := hI.2; omega⟩, ((h4.set 2 (.slice A5 (rl.length + 1) c5)).to (by simp [AnsR.cells, Row.val, List.length_append])), by rw [show (Row.mk A5 c5 (rl ++ [⟨nm, vl⟩])).val = .slice A5 (rl.length + 1) c5 by simp [Row.val], show (Row.mk A5 c5 (rl ++ [⟨nm, vl⟩])).l.length = rl.length + 1 by simp, show (Row.mk A5 c5 (rl ++ [⟨nm, vl⟩])).l = rl ++ [⟨nm, vl⟩] from rfl, fl_append, fl_one]; exact own_frame own5 (fun k hk => heap_setCell_other _ _ _ _ (by have := (own5.lt k hk).1; show k ≠ w1.heap.size; omega)), G2, (by dsimp only; rw [List.length_append, List.length_singleton]; omega), (by simp; exact hz4), n1.kept ((Kept.refl (fun k => k = w1.heap.size) _).setCell (p := ⟨w1.heap.size, 2, none⟩) (.inl rfl) _) (fun k hk => .inl (by omega))⟩
                 case measure => simp [intOf]; omega)
            · rw [hb] at c1
              have G2 := GG.out
              rw [go_zero rPrt _ _ _ (.inr hb)] at G2
              injection G2 with g1 g2
              subst g1 g2
              have nr : RowN ptC (w1.heap.size + 1) wr r := ⟨by obtain ⟨A', c', hv, h1, h2⟩ := own_form hown; unfold Row.val at hv; injection hv with _ _ e3; rw [e3]; exact h1, by obtain ⟨A', c', hv, h1, h2⟩ := own_form hown; unfold Row.val at hv; injection hv with _ _ e3; rw [e3]; exact h2, RVF.of_own hown (fun i hi => .inl (by omega))⟩
              have n1 := n1.rowN
              clear GG hown few hI
              go_upto_region 12 with (fail)
              clear c1 bk dk
              obtain ⟨r2, hr2⟩ : ∃ x, x = r := ⟨_, rfl⟩
              rw [← hr2] at q2 nr h0
              with_reducible refine code_abs (fun w' => DHolds L w0 (w1.alloc (.cells (AnsR.mk a0 noRow noRow 0).cells.toArray 36)) g w1.heap.size (fun k => F k ∨ w.heap.size ≤ k) 36 s' (AnsR.mk a0 r1 r2 0).cells.toArray w' ∧ RowN ptC (w1.heap.size + 1) w' r2 ∧ RowN fdC (w1.heap.size + 1) w' r1) ?_ ?_
              · exact ⟨h0, nr, n1⟩
              clear h0 nr hr2 hvs n1 hb
              rintro v3 ⟨h0, n2, n1⟩
              obtain ⟨s3, hs3⟩ : ∃ x, x = s' := ⟨_, rfl⟩
              rw [← hs3] at h0 q2
              clear hs3
              obtain ⟨a3, s4, q3⟩ : ∃ a s', rNum s3 = (a, s') := ⟨_, _, rfl⟩
              have C := dnumr_calls L w0 v3 g _ s3 h0.ok
              rw [q3] at C
              replace q3 := Lib.hid q3
              go_upto_region 13 with (go_at_call 45; refine C.mono ?_; rintro _ w2 ⟨rfl, RB⟩; have h1 := h0.call RB; have n1 := n1.kept RB.kept (fun k hk => by omega); have n2 := n2.kept RB.kept (fun k hk => by omega); have k0 := h1.at_ (i := 3) (v := .int .i64 0) rfl; have f0 := h1.blk.frozen 3; clear h0 RB C)
              with_reducible refine code_abs (fun w' => DHolds L w0 (w1.alloc (.cells (AnsR.mk a0 noRow noRow 0).cells.toArray 36)) g w1.heap.size (fun k => F k ∨ w.heap.size ≤ k) 36 s4 (AnsR.mk a0 r1 r2 a3).cells.toArray w' ∧ RowN fdC (w1.heap.size + 1) w' r1 ∧ RowN ptC (w1.heap.size + 1) w' r2) ?_ ?_
              · exact ⟨(h1.set 3 (.int .i64 a3)).to rfl, (n1.cell (p := ⟨w1.heap.size, 3, none⟩) (Nat.lt_succ_self _) (.int .i64 a3)), (n2.cell (p := ⟨w1.heap.size, 3, none⟩) (Nat.lt_succ_self _) (.int .i64 a3))⟩
              clear h1 k0 f0 n1 n2
              rintro v4 ⟨h0, n1, n2⟩
              have hR := h0.older bR2 (by omega) (by omega)
              have hX := h0.blk
              have hR' : v4.heap[w.heap.size]? = some (Obj.cells zAnsR.cells.toArray 36) := hR
              have hX' : v4.heap[w1.heap.size]? = some (Obj.cells (AnsR.mk a0 r1 r2 a3).cells.toArray 36) := hX
              with_reducible refine wp_region_lit ?_
              with_reducible refine wpList_load_row rfl 36 (.tmp 3) rfl w1.heap.size (by kernel_rfl) 36 (AnsR.mk a0 r1 r2 a3).cells.toArray (0, 0) _ hX' Tryz.underlying36 (by kernel_rfl) (by kernel_rfl) ?_
              go_frame
              with_reducible refine wpList_store_row rfl 36 (.tmp 2) (.tmp 68) rfl w.heap.size (AnsR.mk a0 r1 r2 a3).cells.toArray (by kernel_rfl) (by kernel_rfl) 36 zAnsR.cells.toArray hR' (by kernel_rfl) (by kernel_rfl) (by kernel_rfl) (wpList_nil ?_)
              have bT : (v4.setRow (w.heap.size) (AnsR.mk a0 r1 r2 a3).cells.toArray).heap[w.heap.size]? = some (Obj.cells (AnsR.mk a0 r1 r2 a3).cells.toArray 36) := hR.setRow_ _
              simp only [Act.put]
              repeat go_step
              (try simp only [Exit.inBlock, Exit.then])
              refine bodyPost_ret (results_cell_row rfl _ _ (w.heap.size) 36 (AnsR.mk a0 r1 r2 a3).cells.toArray (0, 0) _ (by kernel_rfl) bT Tryz.underlying36 (by kernel_rfl) (by kernel_rfl)) rfl ?_
              have hH := (H1.call h0.done).setRow (Nat.le_refl w.heap.size) (AnsR.mk a0 r1 r2 a3).cells.toArray
              have e : rAns L s = (⟨a0, r1.l, r2.l, a3⟩, s4) := by unfold rAns; simp only [q0.out, q1.out, q2.out, q3.out]
              rw [e]
              exact ⟨(AnsR.mk a0 r1 r2 a3), rfl, rfl, (n1.setRow (by omega) _).older (by omega), (n2.setRow (by omega) _).older (by omega), hH.done⟩
          · have dk : decide (0 < k) = false := decide_eq_false hk
            have G2 := GG.out
            rw [go_zero rPrt _ _ _ (.inl (by omega))] at G2
            injection G2 with g1 g2
            subst g1 g2
            have nr : RowN ptC (w1.heap.size + 1) wr r := ⟨by obtain ⟨A', c', hv, h1, h2⟩ := own_form hown; unfold Row.val at hv; injection hv with _ _ e3; rw [e3]; exact h1, by obtain ⟨A', c', hv, h1, h2⟩ := own_form hown; unfold Row.val at hv; injection hv with _ _ e3; rw [e3]; exact h2, RVF.of_own hown (fun i hi => .inl (by omega))⟩
            have n1 := n1.rowN
            clear GG hown few hI
            go_upto_region 12 with (fail)
            clear c1 bk dk
            obtain ⟨r2, hr2⟩ : ∃ x, x = r := ⟨_, rfl⟩
            rw [← hr2] at q2 nr h0
            with_reducible refine code_abs (fun w' => DHolds L w0 (w1.alloc (.cells (AnsR.mk a0 noRow noRow 0).cells.toArray 36)) g w1.heap.size (fun k => F k ∨ w.heap.size ≤ k) 36 s' (AnsR.mk a0 r1 r2 0).cells.toArray w' ∧ RowN ptC (w1.heap.size + 1) w' r2 ∧ RowN fdC (w1.heap.size + 1) w' r1) ?_ ?_
            · exact ⟨h0, nr, n1⟩
            clear h0 nr hr2 hvs n1
            rintro v3 ⟨h0, n2, n1⟩
            obtain ⟨s3, hs3⟩ : ∃ x, x = s' := ⟨_, rfl⟩
            rw [← hs3] at h0 q2
            clear hs3
            obtain ⟨a3, s4, q3⟩ : ∃ a s', rNum s3 = (a, s') := ⟨_, _, rfl⟩
            have C := dnumr_calls L w0 v3 g _ s3 h0.ok
            rw [q3] at C
            replace q3 := Lib.hid q3
            go_upto_region 13 with (go_at_call 45; refine C.mono ?_; rintro _ w2 ⟨rfl, RB⟩; have h1 := h0.call RB; have n1 := n1.kept RB.kept (fun k hk => by omega); have n2 := n2.kept RB.kept (fun k hk => by omega); have k0 := h1.at_ (i := 3) (v := .int .i64 0) rfl; have f0 := h1.blk.frozen 3; clear h0 RB C)
            with_reducible refine code_abs (fun w' => DHolds L w0 (w1.alloc (.cells (AnsR.mk a0 noRow noRow 0).cells.toArray 36)) g w1.heap.size (fun k => F k ∨ w.heap.size ≤ k) 36 s4 (AnsR.mk a0 r1 r2 a3).cells.toArray w' ∧ RowN fdC (w1.heap.size + 1) w' r1 ∧ RowN ptC (w1.heap.size + 1) w' r2) ?_ ?_
            · exact ⟨(h1.set 3 (.int .i64 a3)).to rfl, (n1.cell (p := ⟨w1.heap.size, 3, none⟩) (Nat.lt_succ_self _) (.int .i64 a3)), (n2.cell (p := ⟨w1.heap.size, 3, none⟩) (Nat.lt_succ_self _) (.int .i64 a3))⟩
            clear h1 k0 f0 n1 n2
            rintro v4 ⟨h0, n1, n2⟩
            have hR := h0.older bR2 (by omega) (by omega)
            have hX := h0.blk
            have hR' : v4.heap[w.heap.size]? = some (Obj.cells zAnsR.cells.toArray 36) := hR
            have hX' : v4.heap[w1.heap.size]? = some (Obj.cells (AnsR.mk a0 r1 r2 a3).cells.toArray 36) := hX
            with_reducible refine wp_region_lit ?_
            with_reducible refine wpList_load_row rfl 36 (.tmp 3) rfl w1.heap.size (by kernel_rfl) 36 (AnsR.mk a0 r1 r2 a3).cells.toArray (0, 0) _ hX' Tryz.underlying36 (by kernel_rfl) (by kernel_rfl) ?_
            go_frame
            with_reducible refine wpList_store_row rfl 36 (.tmp 2) (.tmp 68) rfl w.heap.size (AnsR.mk a0 r1 r2 a3).cells.toArray (by kernel_rfl) (by kernel_rfl) 36 zAnsR.cells.toArray hR' (by kernel_rfl) (by kernel_rfl) (by kernel_rfl) (wpList_nil ?_)
            have bT : (v4.setRow (w.heap.size) (AnsR.mk a0 r1 r2 a3).cells.toArray).heap[w.heap.size]? = some (Obj.cells (AnsR.mk a0 r1 r2 a3).cells.toArray 36) := hR.setRow_ _
            simp only [Act.put]
            repeat go_step
            (try simp only [Exit.inBlock, Exit.then])
            refine bodyPost_ret (results_cell_row rfl _ _ (w.heap.size) 36 (AnsR.mk a0 r1 r2 a3).cells.toArray (0, 0) _ (by kernel_rfl) bT Tryz.underlying36 (by kernel_rfl) (by kernel_rfl)) rfl ?_
            have hH := (H1.call h0.done).setRow (Nat.le_refl w.heap.size) (AnsR.mk a0 r1 r2 a3).cells.toArray
            have e : rAns L s = (⟨a0, r1.l, r2.l, a3⟩, s4) := by unfold rAns; simp only [q0.out, q1.out, q2.out, q3.out]
            rw [e]
            exact ⟨(AnsR.mk a0 r1 r2 a3), rfl, rfl, (n1.setRow (by omega) _).older (by omega), (n2.setRow (by omega) _).older (by omega), hH.done⟩
    · have dk : decide (0 < k) = false := decide_eq_false hk
      have G2 := GG.out
      rw [go_zero rFld _ _ _ (.inl (by omega))] at G2
      injection G2 with g1 g2
      subst g1 g2
      have nr : RowN fdC (w1.heap.size + 1) wr r := ⟨by obtain ⟨A', c', hv, h1, h2⟩ := own_form hown; unfold Row.val at hv; injection hv with _ _ e3; rw [e3]; exact h1, by obtain ⟨A', c', hv, h1, h2⟩ := own_form hown; unfold Row.val at hv; injection hv with _ _ e3; rw [e3]; exact h2, RVF.of_own hown (fun i hi => .inl (by omega))⟩
      clear GG hown few hI
      go_upto_region 7 with (fail)
      clear c1 bk dk
      obtain ⟨r1, hr2⟩ : ∃ x, x = r := ⟨_, rfl⟩
      rw [← hr2] at q1 nr h0
      with_reducible refine code_abs (fun w' => DHolds L w0 (w1.alloc (.cells (AnsR.mk a0 noRow noRow 0).cells.toArray 36)) g w1.heap.size (fun k => F k ∨ w.heap.size ≤ k) 36 s' (AnsR.mk a0 r1 noRow 0).cells.toArray w' ∧ RowN fdC (w1.heap.size + 1) w' r1) ?_ ?_
      · exact ⟨h0, nr⟩
      clear h0 nr hr2 hvs
      rintro v2 ⟨h0, n1⟩
      obtain ⟨s2, hs3⟩ : ∃ x, x = s' := ⟨_, rfl⟩
      rw [← hs3] at h0 q1
      clear hs3
      have hI := rMany_I L s2
      have hM := many_le L s2
      have C := dmany_calls L w0 v2 g _ s2 h0.ok
      have G0 : Hid (pGo rPrt (rMany L s2).1.toNat [] (rMany L s2).2 = rList L rPrt s2) := Lib.hid rfl
      obtain ⟨a2, s3, q2⟩ : ∃ a s', rList L rPrt s2 = (a, s') := ⟨_, _, rfl⟩
      rw [q2] at G0
      replace q2 := Lib.hid q2
      generalize rMany L s2 = qm at *
      obtain ⟨k0, sm⟩ := qm
      dsimp only at G0 hI hM C
      go_wp2_with (go_at_call 134; refine C.mono ?_; rintro _ vv ⟨rfl, RM⟩; have h1 := h0.call RM; have n1 := n1.kept RM.kept (fun k hk => by omega); clear RM C h0)
      have hvz := h1.size
      have n1 := n1.rowF
      go_loopw [6] (fun n wr => ∃ (k : Int) (r : Row Prt) (s' : RdS), n = .int .i64 k ∧ I64 k ∧ DHolds L w0 (w1.alloc (.cells (AnsR.mk a0 noRow noRow 0).cells.toArray 36)) g w1.heap.size (fun k => F k ∨ w.heap.size ≤ k) 36 s' (AnsR.mk a0 r1 r 0).cells.toArray wr ∧ wr.ownsRow vv.heap.size 78 3 r.val r.l.length (fl ptC r.l) ∧ Hid (pGo rPrt k.toNat r.l s' = (a2, s3)) ∧ r.l.length + k.toNat ≤ L ∧ vv.heap.size ≤ wr.heap.size ∧ RowF fdC (fun k => k < w1.heap.size + 1 ∨ vv.heap.size ≤ k) wr r1) (fun n _ => (intOf n).toNat)
      case atStart => exact ⟨k0, noRow, sm, rfl, hI, h1, ⟨rfl, .inl ⟨rfl, rfl⟩⟩, G0, (by show 0 + _ ≤ _; omega), Nat.le_refl _, n1⟩
      case round =>
        clear hI h1 G0 hM n1
        obtain ⟨k, r, s', rfl, hI, h0, hown, GG, few, hvs, n1⟩ := hrel
        obtain ⟨A0, c0, n0, bk⟩ := h0.ok.bad_
        have c1 := bk.at_ (i := 2) (v := .bool s'.2) rfl
        have hlo := h0.size
        by_cases hk : 0 < k
        · have dk : decide (0 < k) = true := decide_eq_true hk
          cases hb : s'.2
          · rw [hb] at c1
            have g1 := go_succ rPrt k r.l s' hk hb
            have G2 : pGo rPrt (k - 1).toNat (r.l ++ [(rPrt s').1]) (rPrt s').2 = (a2, s3) := g1.symm.trans GG.out
            have wk : wrap64 (k - 1) = k - 1 := by have := hI.1; have := hI.2; unfold wrap64; omega
            clear g1 GG
            have G3 : pGo rPrt (k - 1).toNat (r.l ++ [⟨(rTextW (pWord s').1 (pWord s').2).1, (rSpan (rTextW (pWord s').1 (pWord s').2).2).1⟩]) (rSpan (rTextW (pWord s').1 (pWord s').2).2).2 = (a2, s3) := G2
            clear G2
            have CW := dw_calls L w0 wr g _ s' h0.ok
            have hsh := h0.ok.head
            obtain ⟨tt, sa, qa⟩ : ∃ a z, pWord s' = (a, z) := ⟨_, _, rfl⟩
            rw [qa] at CW G3 hsh
            dsimp only at CW G3 hsh
            have CX := fun W (h : DdOK L w0 W g (fun k => (fun k => F k ∨ w.heap.size ≤ k) k ∨ w1.heap.size ≤ k) sa) => dtextr_calls L w0 W g (fun k => (fun k => F k ∨ w.heap.size ≤ k) k ∨ w1.heap.size ≤ k) sa h tt hsh
            obtain ⟨nm, sb, qb⟩ : ∃ a z, rTextW tt sa = (a, z) := ⟨_, _, rfl⟩
            rw [qb] at CX G3
            dsimp only at CX G3
            clear qa qb
            go_upto_region 11 with (first | (go_at_call 46; refine CW.mono ?_; rintro _ wA ⟨rfl, RA⟩; have hA := h0.call RA; have ownA := own_frame hown (fun k hk => RA.kept.block k (hown.lt k hk).2 (by have := (hown.lt k hk).1; omega)); have hvs := Nat.le_trans hvs RA.kept.size; have n1 := n1.kept RA.kept (fun k hk => .inl (by omega)); clear RA h0 hown CW c1 bk) | (go_at_call 91; have _q := hA; refine (CX _ hA.ok).mono ?_; rintro _ w2 ⟨rfl, RB⟩; have hB := hA.call RB; have ownB := own_frame ownA (fun k hk => RB.kept.block k (ownA.lt k hk).2 (by have := (ownA.lt k hk).1; omega)); have hvs := Nat.le_trans hvs RB.kept.size; have n1 := n1.kept RB.kept (fun k hk => .inl (by omega)); clear RB hA _q ownA CX))
            with_reducible refine code_abs (fun w' => DHolds L w0 (w1.alloc (.cells (AnsR.mk a0 noRow noRow 0).cells.toArray 36)) g w1.heap.size (fun k => F k ∨ w.heap.size ≤ k) 36 sb (AnsR.mk a0 r1 r 0).cells.toArray w' ∧ w'.ownsRow vv.heap.size 78 3 r.val r.l.length (fl ptC r.l) ∧ vv.heap.size ≤ w'.heap.size ∧ RowF fdC (fun k => k < w1.heap.size + 1 ∨ vv.heap.size ≤ k) w' r1) ?_ ?_
            · exact ⟨hB, ownB, hvs, n1⟩
            clear hB ownB hlo n1
            rintro wr ⟨h0, hown, hvs, n1⟩
            have hlo := h0.size
            have h0d := h0.drew
            have CW := dspanr_calls L w0 _ g _ sb h0d.ok
            obtain ⟨vl, sd, qa⟩ : ∃ a z, rSpan sb = (a, z) := ⟨_, _, rfl⟩
            rw [qa] at CW G3
            dsimp only at CW G3
            clear qa
            obtain ⟨rA, rc, rl⟩ := r
            dsimp only at few G3
            have G2 := Lib.hid G3
            clear G3
            have k1 := h0.at_ (i := 2) (v := .slice rA rl.length rc) rfl
            have k1d := h0d.at_ (i := 2) (v := .slice rA rl.length rc) rfl
            have hown' : wr.ownsRow vv.heap.size 78 3 (.slice rA rl.length rc) rl.length (fl ptC rl) := hown
            have hownd := own_below hown' ((Below.refl wr.heap.size wr).drew) (fun k hk => (hown'.lt k hk).2)
            obtain ⟨A', c', hsl, hnc, hcm⟩ := own_form hown'
            clear hsl hown hown'
            have n1 := n1.kept (Kept.of_below ((Below.refl wr.heap.size wr).drew) (fun _ => False)) (fun k hk => hk.elim)
            go_region_law (first | (go_simp; go_at_call 97; refine CW.mono ?_; rintro _ w2 ⟨rfl, RB⟩; have hB := h0d.call RB; have ownB := own_frame hownd (fun k hk => RB.kept.block k (hownd.lt k hk).2 (by have := (hownd.lt k hk).1; omega)); have hvs := Nat.le_trans hvs RB.kept.size; have n1 := n1.kept RB.kept (fun k hk => .inl (by omega)); have kB := hB.at_ (i := 2) (v := .slice rA rl.length rc) rfl; have kBa := (hB.below (below_new w2 (.cells #[.string (bstr nm), .int .i64 vl.frm, .int .i64 vl.to] 78))).at_ (i := 2) (v := .slice rA rl.length rc) rfl; have hs2 := hB.size; have own4 := own_below ownB (below_new w2 (.cells (ptC ⟨nm, vl⟩).toArray 78)) (fun k hk => (ownB.lt k hk).2); have rv4 := RV.new w2 (ptC ⟨nm, vl⟩) 78 (0, 0); clear RB h0d hownd CW k1d k1) | (refine step_append_rv (A := some ⟨w2.heap.size, 0, none⟩) (m := 1) (c := 1) (news := ptC ⟨nm, vl⟩) el_part rfl (.tmp 57) (.tmp 62) rfl rfl own4 rfl rfl rv4 (ptC_one _) (by unfold maxLen; omega) (by omega) (by first | omega | (simp; omega)) ?_; intro v' w4 own5 gr hv; have h4 := hB.more (((Kept.refl (fun k => (w1.alloc (.cells (AnsR.mk a0 noRow noRow 0).cells.toArray 36)).heap.size ≤ k) w2).alloc _).grown gr (fun k hk => .inl (by rw [hw1]; have := (ownB.lt k hk).1; omega))); have hz4 : vv.heap.size ≤ w4.heap.size := Nat.le_trans hvs (((Kept.refl (fun k => vv.heap.size ≤ k) w2).alloc _).grown gr (fun k hk => .inl (ownB.lt k hk).1)).size; have n1 := n1.kept (((Kept.refl (fun k => vv.heap.size ≤ k) w2).alloc _).grown gr (fun k hk => .inl (ownB.lt k hk).1)) (fun k hk => .inr hk); have k4 := h4.at_ (i := 2) (v := .slice rA rl.length rc) rfl; have f4 := h4.blk.frozen 2; obtain ⟨A5, c5, rfl, hnc5, hcm5⟩ := own_form own5; clear gr hv hB ownB own4 rv4 kB kBa))
            all_goals
              (go_wp2_with fail
               go_roundw
               case rel => exact ⟨k - 1, ⟨A5, c5, rl ++ [⟨nm, vl⟩]⟩, sd, rfl, ⟨by have := hI.1; omega, by have := hI.2; omega⟩, ((h4.set 2 (.slice A5 (rl.length + 1) c5)).to (by simp [AnsR.cells, Row.val, List.length_append])), by rw [show (Row.mk A5 c5 (rl ++ [⟨nm, vl⟩])).val = .slice A5 (rl.length + 1) c5 by simp [Row.val], show (Row.mk A5 c5 (rl ++ [⟨nm, vl⟩])).l.length = rl.length + 1 by simp, show (Row.mk A5 c5 (rl ++ [⟨nm, vl⟩])).l = rl ++ [⟨nm, vl⟩] from rfl, fl_append, fl_one]; exact own_frame own5 (fun k hk => heap_setCell_other _ _ _ _ (by have := (own5.lt k hk).1; show k ≠ w1.heap.size; omega)), G2, (by dsimp only; rw [List.length_append, List.length_singleton]; omega), (by simp; exact hz4), n1.kept ((Kept.refl (fun k => k = w1.heap.size) _).setCell (p := ⟨w1.heap.size, 2, none⟩) (.inl rfl) _) (fun k hk => .inl (by omega))⟩
               case measure => simp [intOf]; omega)
          · rw [hb] at c1
            have G2 := GG.out
            rw [go_zero rPrt _ _ _ (.inr hb)] at G2
            injection G2 with g1 g2
            subst g1 g2
            have nr : RowN ptC (w1.heap.size + 1) wr r := ⟨by obtain ⟨A', c', hv, h1, h2⟩ := own_form hown; unfold Row.val at hv; injection hv with _ _ e3; rw [e3]; exact h1, by obtain ⟨A', c', hv, h1, h2⟩ := own_form hown; unfold Row.val at hv; injection hv with _ _ e3; rw [e3]; exact h2, RVF.of_own hown (fun i hi => .inl (by omega))⟩
            have n1 := n1.rowN
            clear GG hown few hI
            go_upto_region 12 with (fail)
            clear c1 bk dk
            obtain ⟨r2, hr2⟩ : ∃ x, x = r := ⟨_, rfl⟩
            rw [← hr2] at q2 nr h0
            with_reducible refine code_abs (fun w' => DHolds L w0 (w1.alloc (.cells (AnsR.mk a0 noRow noRow 0).cells.toArray 36)) g w1.heap.size (fun k => F k ∨ w.heap.size ≤ k) 36 s' (AnsR.mk a0 r1 r2 0).cells.toArray w' ∧ RowN ptC (w1.heap.size + 1) w' r2 ∧ RowN fdC (w1.heap.size + 1) w' r1) ?_ ?_
            · exact ⟨h0, nr, n1⟩
            clear h0 nr hr2 hvs n1 hb
            rintro v3 ⟨h0, n2, n1⟩
            obtain ⟨s3, hs3⟩ : ∃ x, x = s' := ⟨_, rfl⟩
            rw [← hs3] at h0 q2
            clear hs3
            obtain ⟨a3, s4, q3⟩ : ∃ a s', rNum s3 = (a, s') := ⟨_, _, rfl⟩
            have C := dnumr_calls L w0 v3 g _ s3 h0.ok
            rw [q3] at C
            replace q3 := Lib.hid q3
            go_upto_region 13 with (go_at_call 45; refine C.mono ?_; rintro _ w2 ⟨rfl, RB⟩; have h1 := h0.call RB; have n1 := n1.kept RB.kept (fun k hk => by omega); have n2 := n2.kept RB.kept (fun k hk => by omega); have k0 := h1.at_ (i := 3) (v := .int .i64 0) rfl; have f0 := h1.blk.frozen 3; clear h0 RB C)
            with_reducible refine code_abs (fun w' => DHolds L w0 (w1.alloc (.cells (AnsR.mk a0 noRow noRow 0).cells.toArray 36)) g w1.heap.size (fun k => F k ∨ w.heap.size ≤ k) 36 s4 (AnsR.mk a0 r1 r2 a3).cells.toArray w' ∧ RowN fdC (w1.heap.size + 1) w' r1 ∧ RowN ptC (w1.heap.size + 1) w' r2) ?_ ?_
            · exact ⟨(h1.set 3 (.int .i64 a3)).to rfl, (n1.cell (p := ⟨w1.heap.size, 3, none⟩) (Nat.lt_succ_self _) (.int .i64 a3)), (n2.cell (p := ⟨w1.heap.size, 3, none⟩) (Nat.lt_succ_self _) (.int .i64 a3))⟩
            clear h1 k0 f0 n1 n2
            rintro v4 ⟨h0, n1, n2⟩
            have hR := h0.older bR2 (by omega) (by omega)
            have hX := h0.blk
            have hR' : v4.heap[w.heap.size]? = some (Obj.cells zAnsR.cells.toArray 36) := hR
            have hX' : v4.heap[w1.heap.size]? = some (Obj.cells (AnsR.mk a0 r1 r2 a3).cells.toArray 36) := hX
            with_reducible refine wp_region_lit ?_
            with_reducible refine wpList_load_row rfl 36 (.tmp 3) rfl w1.heap.size (by kernel_rfl) 36 (AnsR.mk a0 r1 r2 a3).cells.toArray (0, 0) _ hX' Tryz.underlying36 (by kernel_rfl) (by kernel_rfl) ?_
            go_frame
            with_reducible refine wpList_store_row rfl 36 (.tmp 2) (.tmp 68) rfl w.heap.size (AnsR.mk a0 r1 r2 a3).cells.toArray (by kernel_rfl) (by kernel_rfl) 36 zAnsR.cells.toArray hR' (by kernel_rfl) (by kernel_rfl) (by kernel_rfl) (wpList_nil ?_)
            have bT : (v4.setRow (w.heap.size) (AnsR.mk a0 r1 r2 a3).cells.toArray).heap[w.heap.size]? = some (Obj.cells (AnsR.mk a0 r1 r2 a3).cells.toArray 36) := hR.setRow_ _
            simp only [Act.put]
            repeat go_step
            (try simp only [Exit.inBlock, Exit.then])
            refine bodyPost_ret (results_cell_row rfl _ _ (w.heap.size) 36 (AnsR.mk a0 r1 r2 a3).cells.toArray (0, 0) _ (by kernel_rfl) bT Tryz.underlying36 (by kernel_rfl) (by kernel_rfl)) rfl ?_
            have hH := (H1.call h0.done).setRow (Nat.le_refl w.heap.size) (AnsR.mk a0 r1 r2 a3).cells.toArray
            have e : rAns L s = (⟨a0, r1.l, r2.l, a3⟩, s4) := by unfold rAns; simp only [q0.out, q1.out, q2.out, q3.out]
            rw [e]
            exact ⟨(AnsR.mk a0 r1 r2 a3), rfl, rfl, (n1.setRow (by omega) _).older (by omega), (n2.setRow (by omega) _).older (by omega), hH.done⟩
        · have dk : decide (0 < k) = false := decide_eq_false hk
          have G2 := GG.out
          rw [go_zero rPrt _ _ _ (.inl (by omega))] at G2
          injection G2 with g1 g2
          subst g1 g2
          have nr : RowN ptC (w1.heap.size + 1) wr r := ⟨by obtain ⟨A', c', hv, h1, h2⟩ := own_form hown; unfold Row.val at hv; injection hv with _ _ e3; rw [e3]; exact h1, by obtain ⟨A', c', hv, h1, h2⟩ := own_form hown; unfold Row.val at hv; injection hv with _ _ e3; rw [e3]; exact h2, RVF.of_own hown (fun i hi => .inl (by omega))⟩
          have n1 := n1.rowN
          clear GG hown few hI
          go_upto_region 12 with (fail)
          clear c1 bk dk
          obtain ⟨r2, hr2⟩ : ∃ x, x = r := ⟨_, rfl⟩
          rw [← hr2] at q2 nr h0
          with_reducible refine code_abs (fun w' => DHolds L w0 (w1.alloc (.cells (AnsR.mk a0 noRow noRow 0).cells.toArray 36)) g w1.heap.size (fun k => F k ∨ w.heap.size ≤ k) 36 s' (AnsR.mk a0 r1 r2 0).cells.toArray w' ∧ RowN ptC (w1.heap.size + 1) w' r2 ∧ RowN fdC (w1.heap.size + 1) w' r1) ?_ ?_
          · exact ⟨h0, nr, n1⟩
          clear h0 nr hr2 hvs n1
          rintro v3 ⟨h0, n2, n1⟩
          obtain ⟨s3, hs3⟩ : ∃ x, x = s' := ⟨_, rfl⟩
          rw [← hs3] at h0 q2
          clear hs3
          obtain ⟨a3, s4, q3⟩ : ∃ a s', rNum s3 = (a, s') := ⟨_, _, rfl⟩
          have C := dnumr_calls L w0 v3 g _ s3 h0.ok
          rw [q3] at C
          replace q3 := Lib.hid q3
          go_upto_region 13 with (go_at_call 45; refine C.mono ?_; rintro _ w2 ⟨rfl, RB⟩; have h1 := h0.call RB; have n1 := n1.kept RB.kept (fun k hk => by omega); have n2 := n2.kept RB.kept (fun k hk => by omega); have k0 := h1.at_ (i := 3) (v := .int .i64 0) rfl; have f0 := h1.blk.frozen 3; clear h0 RB C)
          with_reducible refine code_abs (fun w' => DHolds L w0 (w1.alloc (.cells (AnsR.mk a0 noRow noRow 0).cells.toArray 36)) g w1.heap.size (fun k => F k ∨ w.heap.size ≤ k) 36 s4 (AnsR.mk a0 r1 r2 a3).cells.toArray w' ∧ RowN fdC (w1.heap.size + 1) w' r1 ∧ RowN ptC (w1.heap.size + 1) w' r2) ?_ ?_
          · exact ⟨(h1.set 3 (.int .i64 a3)).to rfl, (n1.cell (p := ⟨w1.heap.size, 3, none⟩) (Nat.lt_succ_self _) (.int .i64 a3)), (n2.cell (p := ⟨w1.heap.size, 3, none⟩) (Nat.lt_succ_self _) (.int .i64 a3))⟩
          clear h1 k0 f0 n1 n2
          rintro v4 ⟨h0, n1, n2⟩
          have hR := h0.older bR2 (by omega) (by omega)
          have hX := h0.blk
          have hR' : v4.heap[w.heap.size]? = some (Obj.cells zAnsR.cells.toArray 36) := hR
          have hX' : v4.heap[w1.heap.size]? = some (Obj.cells (AnsR.mk a0 r1 r2 a3).cells.toArray 36) := hX
          with_reducible refine wp_region_lit ?_
          with_reducible refine wpList_load_row rfl 36 (.tmp 3) rfl w1.heap.size (by kernel_rfl) 36 (AnsR.mk a0 r1 r2 a3).cells.toArray (0, 0) _ hX' Tryz.underlying36 (by kernel_rfl) (by kernel_rfl) ?_
          go_frame
          with_reducible refine wpList_store_row rfl 36 (.tmp 2) (.tmp 68) rfl w.heap.size (AnsR.mk a0 r1 r2 a3).cells.toArray (by kernel_rfl) (by kernel_rfl) 36 zAnsR.cells.toArray hR' (by kernel_rfl) (by kernel_rfl) (by kernel_rfl) (wpList_nil ?_)
          have bT : (v4.setRow (w.heap.size) (AnsR.mk a0 r1 r2 a3).cells.toArray).heap[w.heap.size]? = some (Obj.cells (AnsR.mk a0 r1 r2 a3).cells.toArray 36) := hR.setRow_ _
          simp only [Act.put]
          repeat go_step
          (try simp only [Exit.inBlock, Exit.then])
          refine bodyPost_ret (results_cell_row rfl _ _ (w.heap.size) 36 (AnsR.mk a0 r1 r2 a3).cells.toArray (0, 0) _ (by kernel_rfl) bT Tryz.underlying36 (by kernel_rfl) (by kernel_rfl)) rfl ?_
          have hH := (H1.call h0.done).setRow (Nat.le_refl w.heap.size) (AnsR.mk a0 r1 r2 a3).cells.toArray
          have e : rAns L s = (⟨a0, r1.l, r2.l, a3⟩, s4) := by unfold rAns; simp only [q0.out, q1.out, q2.out, q3.out]
          rw [e]
          exact ⟨(AnsR.mk a0 r1 r2 a3), rfl, rfl, (n1.setRow (by omega) _).older (by omega), (n2.setRow (by omega) _).older (by omega), hH.done⟩
end Go.Proofs.YtiokbebodblhaaaGreatDoor
