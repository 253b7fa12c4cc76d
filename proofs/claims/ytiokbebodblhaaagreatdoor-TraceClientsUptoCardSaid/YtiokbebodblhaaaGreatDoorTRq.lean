/-
  Walk: a request read. Printed by reqgen.py.
-/
import Derived.Test.YtiokbebodblhaaaGreatDoorTHm
import Derived.Deep.RegionLaw
import Derived.Deep.CutRange
namespace Go.Proofs.YtiokbebodblhaaaGreatDoor
open Go.RowKit TraceP
attribute [local go_sem] Row.val

theorem Blk.to {w : World} {b : Nat} {T : TypeId} {cs cs' : Array Value} (h : Blk w b T cs) (e : cs = cs') : Blk w b T cs' := e ▸ h
theorem RdOK.mono {w0 w : World} {g : Nat} {F G : Nat → Prop} {s : RdS} (H : RdOK w0 w g F s) (h : ∀ k, G k → F k) (hg : G g) : RdOK w0 w g G s := by
  obtain ⟨⟨A, c, bk, hc, hc2, rv⟩, sh, lo, gF, bw, few⟩ := H
  exact ⟨⟨A, c, bk, hc, hc2, rv.mono (fun k _ hk => h k hk)⟩, sh, lo, hg, bw, few⟩
theorem Blk.keptB {w w' : World} {b g : Nat} {T : TypeId} {cs : Array Value} (h : Blk w b T cs) (K : Kept (fun k => k = g) w w') (hb : b ≠ g) : Blk w' b T cs := (K.block b h.lt hb).trans h
set_option maxRecDepth 100000 in
set_option maxHeartbeats 3200000 in
theorem rreq_calls (w0 w : World) (g : Nat) (F : Nat → Prop) (s : RdS) (H : RdOK w0 w g F s) (hS : Std w0) :
    Calls Tryz.prog 87 #[.pointer (some ⟨g, 0, none⟩)] w fun e w' => ∃ r : ReqR, e = .returned (.agg r.cells.toArray) ∧ r.abs = (pReq s).1 ∧ RowN spC w.heap.size w' r.specs ∧ RowN tgC w.heap.size w' r.mtch ∧ RowN tgC w.heap.size w' r.non ∧ Reads w0 g F (pReq s).2 w w' := by
  have hg := H.lt
  have HB := (Hold.start H).alloc (.cells #[.pointer (some ⟨g, 0, none⟩)] 89)
  have bX00 := (Blk.new w 89 #[.pointer (some ⟨g, 0, none⟩)]).alloc (.cells #[.bool false, .string ⟨#[]⟩, .slice none 0 0, .slice none 0 0, .slice none 0 0, .bool false, .bool false, .int .i64 0, .int .i64 0, .string ⟨#[]⟩, .bool false] 29)
  have bR00 : Blk ((w.alloc (.cells #[.pointer (some ⟨g, 0, none⟩)] 89)).alloc (.cells #[.bool false, .string ⟨#[]⟩, .slice none 0 0, .slice none 0 0, .slice none 0 0, .bool false, .bool false, .int .i64 0, .int .i64 0, .string ⟨#[]⟩, .bool false] 29)) (w.heap.size + 1) 29 #[.bool false, .string ⟨#[]⟩, .slice none 0 0, .slice none 0 0, .slice none 0 0, .bool false, .bool false, .int .i64 0, .int .i64 0, .string ⟨#[]⟩, .bool false] := by have := Blk.new (w.alloc (.cells #[.pointer (some ⟨g, 0, none⟩)] 89)) 29 #[.bool false, .string ⟨#[]⟩, .slice none 0 0, .slice none 0 0, .slice none 0 0, .bool false, .bool false, .int .i64 0, .int .i64 0, .string ⟨#[]⟩, .bool false]; simpa using this
  have H0 := HB.alloc (.cells #[.bool false, .string ⟨#[]⟩, .slice none 0 0, .slice none 0 0, .slice none 0 0, .bool false, .bool false, .int .i64 0, .int .i64 0, .string ⟨#[]⟩, .bool false] 29)
  have hz0 : ((w.alloc (.cells #[.pointer (some ⟨g, 0, none⟩)] 89)).alloc (.cells #[.bool false, .string ⟨#[]⟩, .slice none 0 0, .slice none 0 0, .slice none 0 0, .bool false, .bool false, .int .i64 0, .int .i64 0, .string ⟨#[]⟩, .bool false] 29)).heap.size = w.heap.size + 2 := by simp
  go_enter Tryz.func87, Tryz.ntmps87
  go_upto_region 1 with (fail)
  with_reducible refine code_abs (fun w' => Hold w0 w g F s w' ∧ Blk w' w.heap.size 89 #[.pointer (some ⟨g, 0, none⟩)] ∧ Blk w' (w.heap.size + 1) 29 #[.bool false, .string ⟨#[]⟩, .slice none 0 0, .slice none 0 0, .slice none 0 0, .bool false, .bool false, .int .i64 0, .int .i64 0, .string ⟨#[]⟩, .bool false] ∧ Hid (w'.heap.size = w.heap.size + 2)) ?_ ?_
  · exact ⟨H0, bX00, bR00, Lib.hid hz0⟩
  clear HB bX00 bR00 H0 hz0
  rintro wz ⟨H0, bX, bR, hz⟩
  have hwz : w.heap.size + 1 < wz.heap.size := bR.lt
  have hxg : w.heap.size ≠ g := by omega
  have HZ := H0.ok
  have J0 := (Hold.start HZ).drew
  have J0a := ((Hold.start HZ).alloc (.cells #[.bool false, .string ⟨#[]⟩, .slice none 0 0, .slice none 0 0, .slice none 0 0, .bool false, .bool false, .int .i64 0, .int .i64 0, .string ⟨#[]⟩, .bool false] 29)).drew
  have bQ0 := (Blk.new wz 29 #[.bool false, .string ⟨#[]⟩, .slice none 0 0, .slice none 0 0, .slice none 0 0, .bool false, .bool false, .int .i64 0, .int .i64 0, .string ⟨#[]⟩, .bool false]).drew
  have x0 := bX.drew.at_ (i := 0) (v := .pointer (some ⟨g, 0, none⟩)) rfl
  have x1 := (bX.alloc (.cells #[.bool false, .string ⟨#[]⟩, .slice none 0 0, .slice none 0 0, .slice none 0 0, .bool false, .bool false, .int .i64 0, .int .i64 0, .string ⟨#[]⟩, .bool false] 29)).drew.at_ (i := 0) (v := .pointer (some ⟨g, 0, none⟩)) rfl
  obtain ⟨a0, s1, q0⟩ : ∃ a s', pTruth s = (a, s') := ⟨_, _, rfl⟩
  obtain ⟨a1, s2, q1⟩ : ∃ a s', pText s1 = (a, s') := ⟨_, _, rfl⟩
  have CT := fun W (h : Hold w0 wz g (fun k => F k ∨ w.heap.size ≤ k) s W) => rtruth_calls w0 W g _ s h.ok
  have CX := fun W (h : Hold w0 wz g (fun k => F k ∨ w.heap.size ≤ k) s1 W) => rtext_calls w0 W g _ s1 h.ok hS
  rw [q0] at CT
  rw [q1] at CX
  dsimp only at CT CX
  replace q0 := Lib.hid q0
  replace q1 := Lib.hid q1
  have E1 : Hid (((((((((((((#[.bool false, .string ⟨#[]⟩, .slice none 0 0, .slice none 0 0, .slice none 0 0, .bool false, .bool false, .int .i64 0, .int .i64 0, .string ⟨#[]⟩, .bool false] : Array Value).setIfInBounds 0 (.bool a0)).setIfInBounds 1 (.string (bstr a1))).setIfInBounds 2 (.slice none 0 0)).setIfInBounds 3 (.slice none 0 0)).setIfInBounds 4 (.slice none 0 0)).setIfInBounds 5 (.bool false)).setIfInBounds 6 (.bool false)).setIfInBounds 7 (.int .i64 0)).setIfInBounds 8 (.int .i64 0)).setIfInBounds 9 (.string ⟨#[]⟩)).setIfInBounds 10 (.bool false)) = (ReqR.mk a0 a1 noRow noRow noRow false false 0 0 zTag).cells.toArray) := Lib.hid (by kernel_rfl)
  go_cut [3] from 3 to 8 (fun v wx => ∃ b, v = .pointer (some ⟨b, 0, none⟩) ∧ Hold w0 wz g (fun k => F k ∨ w.heap.size ≤ k) s2 wx ∧ Blk wx b 29 (ReqR.mk a0 a1 noRow noRow noRow false false 0 0 zTag).cells.toArray ∧ wz.heap.size ≤ b)
  case first =>
    go_region_law (go_simp; first
      | (go_at_call 85; with_reducible refine (CT _ J0a).mono ?_; rintro _ wA ⟨rfl, RA⟩; have JA := J0a.call RA; have bQA := bQ0.rd RA (by omega); have yA := Blk.at_ (w := wA) (g := w.heap.size) (t := 89) (cs := #[.pointer (some ⟨g, 0, none⟩)]) (i := 0) (v := .pointer (some ⟨g, 0, none⟩)) (bX.keptB JA.kept hxg) rfl; clear J0 J0a x0 x1 bQ0 RA)
      | (go_at_call 85; with_reducible refine (CT _ J0).mono ?_; rintro _ wA ⟨rfl, RA⟩; have JA := J0.call RA; have JAa := JA.alloc (.cells #[.bool false, .string ⟨#[]⟩, .slice none 0 0, .slice none 0 0, .slice none 0 0, .bool false, .bool false, .int .i64 0, .int .i64 0, .string ⟨#[]⟩, .bool false] 29); have bQN := Blk.new wA 29 #[.bool false, .string ⟨#[]⟩, .slice none 0 0, .slice none 0 0, .slice none 0 0, .bool false, .bool false, .int .i64 0, .int .i64 0, .string ⟨#[]⟩, .bool false]; have yA := Blk.at_ (w := wA) (g := w.heap.size) (t := 89) (cs := #[.pointer (some ⟨g, 0, none⟩)]) (i := 0) (v := .pointer (some ⟨g, 0, none⟩)) (bX.keptB JA.kept hxg) rfl; have yAa := Blk.at_ (w := wA.alloc (.cells #[.bool false, .string ⟨#[]⟩, .slice none 0 0, .slice none 0 0, .slice none 0 0, .bool false, .bool false, .int .i64 0, .int .i64 0, .string ⟨#[]⟩, .bool false] 29)) (g := w.heap.size) (t := 89) (cs := #[.pointer (some ⟨g, 0, none⟩)]) (i := 0) (v := .pointer (some ⟨g, 0, none⟩)) (bX.keptB JAa.kept hxg) rfl; have hA := JA.size; clear J0 J0a x0 x1 bQ0 RA)
      | (go_at_call 82; have _q := bQA; with_reducible refine (CX _ JA).mono ?_; rintro _ wB ⟨rfl, RB⟩; have JB := JA.call RB; have bQB := bQA.rd RB (by omega); have k0 := bQB.at_ (i := 0) (v := .bool false) rfl; have f0 := bQB.frozen 0; have k1 := bQB.at_ (i := 1) (v := .string ⟨#[]⟩) rfl; have f1 := bQB.frozen 1; have k2 := bQB.at_ (i := 2) (v := .slice none 0 0) rfl; have f2 := bQB.frozen 2; have k3 := bQB.at_ (i := 3) (v := .slice none 0 0) rfl; have f3 := bQB.frozen 3; have k4 := bQB.at_ (i := 4) (v := .slice none 0 0) rfl; have f4 := bQB.frozen 4; have k5 := bQB.at_ (i := 5) (v := .bool false) rfl; have f5 := bQB.frozen 5; have k6 := bQB.at_ (i := 6) (v := .bool false) rfl; have f6 := bQB.frozen 6; have k7 := bQB.at_ (i := 7) (v := .int .i64 0) rfl; have f7 := bQB.frozen 7; have k8 := bQB.at_ (i := 8) (v := .int .i64 0) rfl; have f8 := bQB.frozen 8; have k9 := bQB.at_ (i := 9) (v := .string ⟨#[]⟩) rfl; have f9 := bQB.frozen 9; have k10 := bQB.at_ (i := 10) (v := .bool false) rfl; have f10 := bQB.frozen 10; clear RB JA yA bQA _q)
      | (go_at_call 82; with_reducible refine (CX _ JAa).mono ?_; rintro _ wB ⟨rfl, RB⟩; have JB := JAa.call RB; have bQB := bQN.rd RB (by omega); have k0 := bQB.at_ (i := 0) (v := .bool false) rfl; have f0 := bQB.frozen 0; have k1 := bQB.at_ (i := 1) (v := .string ⟨#[]⟩) rfl; have f1 := bQB.frozen 1; have k2 := bQB.at_ (i := 2) (v := .slice none 0 0) rfl; have f2 := bQB.frozen 2; have k3 := bQB.at_ (i := 3) (v := .slice none 0 0) rfl; have f3 := bQB.frozen 3; have k4 := bQB.at_ (i := 4) (v := .slice none 0 0) rfl; have f4 := bQB.frozen 4; have k5 := bQB.at_ (i := 5) (v := .bool false) rfl; have f5 := bQB.frozen 5; have k6 := bQB.at_ (i := 6) (v := .bool false) rfl; have f6 := bQB.frozen 6; have k7 := bQB.at_ (i := 7) (v := .int .i64 0) rfl; have f7 := bQB.frozen 7; have k8 := bQB.at_ (i := 8) (v := .int .i64 0) rfl; have f8 := bQB.frozen 8; have k9 := bQB.at_ (i := 9) (v := .string ⟨#[]⟩) rfl; have f9 := bQB.frozen 9; have k10 := bQB.at_ (i := 10) (v := .bool false) rfl; have f10 := bQB.frozen 10; clear RB JA JAa yA yAa bQN)
      | (go_at_call 82; with_reducible refine (CX _ JA).mono ?_; rintro _ wB ⟨rfl, RB⟩; have JB := JA.call RB; clear RB JA JAa yA yAa bQN))
    all_goals go_wp2_with fail
    all_goals go_meet
    all_goals (first
      | (have _q := bQB; have _h := hA; with_reducible refine ⟨_, rfl, (((((((((((JB.set (p := ⟨wA.heap.size, 0, none⟩) hA (.bool a0)).set (p := ⟨wA.heap.size, 1, none⟩) hA (.string (bstr a1))).set (p := ⟨wA.heap.size, 2, none⟩) hA (.slice none 0 0)).set (p := ⟨wA.heap.size, 3, none⟩) hA (.slice none 0 0)).set (p := ⟨wA.heap.size, 4, none⟩) hA (.slice none 0 0)).set (p := ⟨wA.heap.size, 5, none⟩) hA (.bool false)).set (p := ⟨wA.heap.size, 6, none⟩) hA (.bool false)).set (p := ⟨wA.heap.size, 7, none⟩) hA (.int .i64 0)).set (p := ⟨wA.heap.size, 8, none⟩) hA (.int .i64 0)).set (p := ⟨wA.heap.size, 9, none⟩) hA (.string ⟨#[]⟩)).set (p := ⟨wA.heap.size, 10, none⟩) hA (.bool false)), ?_, hA⟩; exact (((((((((((bQB.set_ 0 (.bool a0)).set_ 1 (.string (bstr a1))).set_ 2 (.slice none 0 0)).set_ 3 (.slice none 0 0)).set_ 4 (.slice none 0 0)).set_ 5 (.bool false)).set_ 6 (.bool false)).set_ 7 (.int .i64 0)).set_ 8 (.int .i64 0)).set_ 9 (.string ⟨#[]⟩)).set_ 10 (.bool false)).to E1.out)
      | (have _q := bQB; with_reducible refine ⟨_, rfl, (((((((((((JB.set (p := ⟨wz.heap.size, 0, none⟩) (Nat.le_refl _) (.bool a0)).set (p := ⟨wz.heap.size, 1, none⟩) (Nat.le_refl _) (.string (bstr a1))).set (p := ⟨wz.heap.size, 2, none⟩) (Nat.le_refl _) (.slice none 0 0)).set (p := ⟨wz.heap.size, 3, none⟩) (Nat.le_refl _) (.slice none 0 0)).set (p := ⟨wz.heap.size, 4, none⟩) (Nat.le_refl _) (.slice none 0 0)).set (p := ⟨wz.heap.size, 5, none⟩) (Nat.le_refl _) (.bool false)).set (p := ⟨wz.heap.size, 6, none⟩) (Nat.le_refl _) (.bool false)).set (p := ⟨wz.heap.size, 7, none⟩) (Nat.le_refl _) (.int .i64 0)).set (p := ⟨wz.heap.size, 8, none⟩) (Nat.le_refl _) (.int .i64 0)).set (p := ⟨wz.heap.size, 9, none⟩) (Nat.le_refl _) (.string ⟨#[]⟩)).set (p := ⟨wz.heap.size, 10, none⟩) (Nat.le_refl _) (.bool false)), ?_, Nat.le_refl _⟩; exact (((((((((((bQB.set_ 0 (.bool a0)).set_ 1 (.string (bstr a1))).set_ 2 (.slice none 0 0)).set_ 3 (.slice none 0 0)).set_ 4 (.slice none 0 0)).set_ 5 (.bool false)).set_ 6 (.bool false)).set_ 7 (.int .i64 0)).set_ 8 (.int .i64 0)).set_ 9 (.string ⟨#[]⟩)).set_ 10 (.bool false)).to E1.out)
      | exact ⟨_, rfl, JB.alloc _, Blk.new wB 29 (ReqR.mk a0 a1 noRow noRow noRow false false 0 0 zTag).cells.toArray, JB.size⟩)
  case rest =>
    obtain ⟨b, rfl, hx, hb, hle⟩ := hcut
    clear CT CX E1 J0 J0a bQ0 x0 x1
    have hgb : g < b := by omega
    have hwb : w.heap.size + 1 < b := by omega
    have bX0 := bX.keptB hx.kept hxg
    have bR2 := bR.keptB hx.kept (by omega)
    have h0 : Holds w0 wc g b (fun k => (F k ∨ w.heap.size ≤ k) ∨ wz.heap.size ≤ k) 29 s2 (ReqR.mk a0 a1 noRow noRow noRow false false 0 0 zTag).cells.toArray wc := ⟨hx.ok.mono (fun k hk => hk.elim id (fun hk => .inr (Nat.le_trans hle hk))) (.inl (.inl hx.hF)), hb, Kept.refl _ _, hgb, .inl hx.hF, Nat.le_trans hx.lo hle, hb.lt⟩
    go_upto_region 2 with (fail)
    obtain ⟨v2, hv2⟩ : ∃ x, x = wc := ⟨_, rfl⟩
    have h0 : Holds w0 wc g b (fun k => (F k ∨ w.heap.size ≤ k) ∨ wz.heap.size ≤ k) 29 s2 (ReqR.mk a0 a1 noRow noRow noRow false false 0 0 zTag).cells.toArray v2 := by rw [hv2]; exact h0
    with_reducible refine code_abs (fun w' => Holds w0 wc g b (fun k => (F k ∨ w.heap.size ≤ k) ∨ wz.heap.size ≤ k) 29 s2 (ReqR.mk a0 a1 noRow noRow noRow false false 0 0 zTag).cells.toArray w') ?_ ?_
    · rw [hv2] at h0; exact h0
    clear h0 hv2 v2
    rintro v2 h0
    obtain ⟨a2, s3, q2⟩ : ∃ a s', pList pSpan s2 = (a, s') := ⟨_, _, rfl⟩
    have bX := h0.older bX0 (by omega) (by omega)
    have x0 := bX.at_ (i := 0) (v := .pointer (some ⟨g, 0, none⟩)) rfl
    have C := specs_read w0 v2 g _ s2 h0.ok hS w.heap.size bX
    rw [q2] at C
    replace q2 := Lib.hid q2
    go_upto_region 3 with (go_at_call 125; refine C.mono ?_; rintro _ w2 ⟨r2, rfl, l2, m2, R⟩; have h1 := h0.call R; replace l2 := Lib.hid l2; have n2 := m2.older (B' := b + 1) (by have := h0.size; omega); have k0 := h1.at_ (i := 2) (v := .slice none 0 0) rfl; have f0 := h1.blk.frozen 2; clear h0 R C bX x0 m2)
    with_reducible refine code_abs (fun w' => Holds w0 wc g b (fun k => (F k ∨ w.heap.size ≤ k) ∨ wz.heap.size ≤ k) 29 s3 (ReqR.mk a0 a1 r2 noRow noRow false false 0 0 zTag).cells.toArray w' ∧ RowN spC (b + 1) w' r2) ?_ ?_
    · exact ⟨(h1.set 2 (.slice r2.A r2.l.length r2.cap)).to rfl, (n2.cell (p := ⟨b, 2, none⟩) (Nat.lt_succ_self _) (.slice r2.A r2.l.length r2.cap))⟩
    clear h1 k0 f0 n2
    rintro v3 ⟨h0, n2⟩
    obtain ⟨a3, s4, q3⟩ : ∃ a s', pList pTag s3 = (a, s') := ⟨_, _, rfl⟩
    have bX := h0.older bX0 (by omega) (by omega)
    have x0 := bX.at_ (i := 0) (v := .pointer (some ⟨g, 0, none⟩)) rfl
    have C := tags_read w0 v3 g _ s3 h0.ok hS
    rw [q3] at C
    replace q3 := Lib.hid q3
    go_upto_region 4 with (go_at_call 128; refine C.mono ?_; rintro _ w2 ⟨r3, rfl, l3, m3, R⟩; have h1 := h0.call R; have n2 := n2.kept R.kept (fun k hk => by omega); replace l3 := Lib.hid l3; have n3 := m3.older (B' := b + 1) (by have := h0.size; omega); have k0 := h1.at_ (i := 3) (v := .slice none 0 0) rfl; have f0 := h1.blk.frozen 3; clear h0 R C bX x0 m3)
    with_reducible refine code_abs (fun w' => Holds w0 wc g b (fun k => (F k ∨ w.heap.size ≤ k) ∨ wz.heap.size ≤ k) 29 s4 (ReqR.mk a0 a1 r2 r3 noRow false false 0 0 zTag).cells.toArray w' ∧ RowN spC (b + 1) w' r2 ∧ RowN tgC (b + 1) w' r3) ?_ ?_
    · exact ⟨(h1.set 3 (.slice r3.A r3.l.length r3.cap)).to rfl, (n2.cell (p := ⟨b, 3, none⟩) (Nat.lt_succ_self _) (.slice r3.A r3.l.length r3.cap)), (n3.cell (p := ⟨b, 3, none⟩) (Nat.lt_succ_self _) (.slice r3.A r3.l.length r3.cap))⟩
    clear h1 k0 f0 n2 n3
    rintro v4 ⟨h0, n2, n3⟩
    obtain ⟨a4, s5, q4⟩ : ∃ a s', pList pTag s4 = (a, s') := ⟨_, _, rfl⟩
    have bX := h0.older bX0 (by omega) (by omega)
    have x0 := bX.at_ (i := 0) (v := .pointer (some ⟨g, 0, none⟩)) rfl
    have C := tags_read w0 v4 g _ s4 h0.ok hS
    rw [q4] at C
    replace q4 := Lib.hid q4
    go_upto_region 5 with (go_at_call 128; refine C.mono ?_; rintro _ w2 ⟨r4, rfl, l4, m4, R⟩; have h1 := h0.call R; have n2 := n2.kept R.kept (fun k hk => by omega); have n3 := n3.kept R.kept (fun k hk => by omega); replace l4 := Lib.hid l4; have n4 := m4.older (B' := b + 1) (by have := h0.size; omega); have k0 := h1.at_ (i := 4) (v := .slice none 0 0) rfl; have f0 := h1.blk.frozen 4; clear h0 R C bX x0 m4)
    with_reducible refine code_abs (fun w' => Holds w0 wc g b (fun k => (F k ∨ w.heap.size ≤ k) ∨ wz.heap.size ≤ k) 29 s5 (ReqR.mk a0 a1 r2 r3 r4 false false 0 0 zTag).cells.toArray w' ∧ RowN spC (b + 1) w' r2 ∧ RowN tgC (b + 1) w' r3 ∧ RowN tgC (b + 1) w' r4) ?_ ?_
    · exact ⟨(h1.set 4 (.slice r4.A r4.l.length r4.cap)).to rfl, (n2.cell (p := ⟨b, 4, none⟩) (Nat.lt_succ_self _) (.slice r4.A r4.l.length r4.cap)), (n3.cell (p := ⟨b, 4, none⟩) (Nat.lt_succ_self _) (.slice r4.A r4.l.length r4.cap)), (n4.cell (p := ⟨b, 4, none⟩) (Nat.lt_succ_self _) (.slice r4.A r4.l.length r4.cap))⟩
    clear h1 k0 f0 n2 n3 n4
    rintro v5 ⟨h0, n2, n3, n4⟩
    obtain ⟨a5, s6, q5⟩ : ∃ a s', pTruth s5 = (a, s') := ⟨_, _, rfl⟩
    have bX := h0.older bX0 (by omega) (by omega)
    have x0 := bX.at_ (i := 0) (v := .pointer (some ⟨g, 0, none⟩)) rfl
    have C := rtruth_calls w0 v5 g _ s5 h0.ok
    rw [q5] at C
    replace q5 := Lib.hid q5
    go_upto_region 6 with (go_at_call 85; refine C.mono ?_; rintro _ w2 ⟨rfl, R⟩; have h1 := h0.call R; have n2 := n2.kept R.kept (fun k hk => by omega); have n3 := n3.kept R.kept (fun k hk => by omega); have n4 := n4.kept R.kept (fun k hk => by omega); have k0 := h1.at_ (i := 5) (v := .bool false) rfl; have f0 := h1.blk.frozen 5; clear h0 R C bX x0)
    with_reducible refine code_abs (fun w' => Holds w0 wc g b (fun k => (F k ∨ w.heap.size ≤ k) ∨ wz.heap.size ≤ k) 29 s6 (ReqR.mk a0 a1 r2 r3 r4 a5 false 0 0 zTag).cells.toArray w' ∧ RowN spC (b + 1) w' r2 ∧ RowN tgC (b + 1) w' r3 ∧ RowN tgC (b + 1) w' r4) ?_ ?_
    · exact ⟨(h1.set 5 (.bool a5)).to rfl, (n2.cell (p := ⟨b, 5, none⟩) (Nat.lt_succ_self _) (.bool a5)), (n3.cell (p := ⟨b, 5, none⟩) (Nat.lt_succ_self _) (.bool a5)), (n4.cell (p := ⟨b, 5, none⟩) (Nat.lt_succ_self _) (.bool a5))⟩
    clear h1 k0 f0 n2 n3 n4
    rintro v6 ⟨h0, n2, n3, n4⟩
    obtain ⟨a6, s7, q6⟩ : ∃ a s', pTruth s6 = (a, s') := ⟨_, _, rfl⟩
    have bX := h0.older bX0 (by omega) (by omega)
    have x0 := bX.at_ (i := 0) (v := .pointer (some ⟨g, 0, none⟩)) rfl
    have C := rtruth_calls w0 v6 g _ s6 h0.ok
    rw [q6] at C
    replace q6 := Lib.hid q6
    go_upto_region 7 with (go_at_call 85; refine C.mono ?_; rintro _ w2 ⟨rfl, R⟩; have h1 := h0.call R; have n2 := n2.kept R.kept (fun k hk => by omega); have n3 := n3.kept R.kept (fun k hk => by omega); have n4 := n4.kept R.kept (fun k hk => by omega); have k0 := h1.at_ (i := 6) (v := .bool false) rfl; have f0 := h1.blk.frozen 6; clear h0 R C bX x0)
    with_reducible refine code_abs (fun w' => Holds w0 wc g b (fun k => (F k ∨ w.heap.size ≤ k) ∨ wz.heap.size ≤ k) 29 s7 (ReqR.mk a0 a1 r2 r3 r4 a5 a6 0 0 zTag).cells.toArray w' ∧ RowN spC (b + 1) w' r2 ∧ RowN tgC (b + 1) w' r3 ∧ RowN tgC (b + 1) w' r4) ?_ ?_
    · exact ⟨(h1.set 6 (.bool a6)).to rfl, (n2.cell (p := ⟨b, 6, none⟩) (Nat.lt_succ_self _) (.bool a6)), (n3.cell (p := ⟨b, 6, none⟩) (Nat.lt_succ_self _) (.bool a6)), (n4.cell (p := ⟨b, 6, none⟩) (Nat.lt_succ_self _) (.bool a6))⟩
    clear h1 k0 f0 n2 n3 n4
    rintro v7 ⟨h0, n2, n3, n4⟩
    obtain ⟨a7, s8, q7⟩ : ∃ a s', pNum s7 = (a, s') := ⟨_, _, rfl⟩
    have bX := h0.older bX0 (by omega) (by omega)
    have x0 := bX.at_ (i := 0) (v := .pointer (some ⟨g, 0, none⟩)) rfl
    have C := rnum_calls w0 v7 g _ s7 h0.ok hS
    rw [q7] at C
    replace q7 := Lib.hid q7
    go_upto_region 8 with (go_at_call 79; refine C.mono ?_; rintro _ w2 ⟨rfl, R⟩; have h1 := h0.call R; have n2 := n2.kept R.kept (fun k hk => by omega); have n3 := n3.kept R.kept (fun k hk => by omega); have n4 := n4.kept R.kept (fun k hk => by omega); have k0 := h1.at_ (i := 7) (v := .int .i64 0) rfl; have f0 := h1.blk.frozen 7; clear h0 R C bX x0)
    with_reducible refine code_abs (fun w' => Holds w0 wc g b (fun k => (F k ∨ w.heap.size ≤ k) ∨ wz.heap.size ≤ k) 29 s8 (ReqR.mk a0 a1 r2 r3 r4 a5 a6 a7 0 zTag).cells.toArray w' ∧ RowN spC (b + 1) w' r2 ∧ RowN tgC (b + 1) w' r3 ∧ RowN tgC (b + 1) w' r4) ?_ ?_
    · exact ⟨(h1.set 7 (.int .i64 a7)).to rfl, (n2.cell (p := ⟨b, 7, none⟩) (Nat.lt_succ_self _) (.int .i64 a7)), (n3.cell (p := ⟨b, 7, none⟩) (Nat.lt_succ_self _) (.int .i64 a7)), (n4.cell (p := ⟨b, 7, none⟩) (Nat.lt_succ_self _) (.int .i64 a7))⟩
    clear h1 k0 f0 n2 n3 n4
    rintro v8 ⟨h0, n2, n3, n4⟩
    obtain ⟨a8, s9, q8⟩ : ∃ a s', pNum s8 = (a, s') := ⟨_, _, rfl⟩
    have bX := h0.older bX0 (by omega) (by omega)
    have x0 := bX.at_ (i := 0) (v := .pointer (some ⟨g, 0, none⟩)) rfl
    have C := rnum_calls w0 v8 g _ s8 h0.ok hS
    rw [q8] at C
    replace q8 := Lib.hid q8
    go_upto_region 9 with (go_at_call 79; refine C.mono ?_; rintro _ w2 ⟨rfl, R⟩; have h1 := h0.call R; have n2 := n2.kept R.kept (fun k hk => by omega); have n3 := n3.kept R.kept (fun k hk => by omega); have n4 := n4.kept R.kept (fun k hk => by omega); have k0 := h1.at_ (i := 8) (v := .int .i64 0) rfl; have f0 := h1.blk.frozen 8; clear h0 R C bX x0)
    with_reducible refine code_abs (fun w' => Holds w0 wc g b (fun k => (F k ∨ w.heap.size ≤ k) ∨ wz.heap.size ≤ k) 29 s9 (ReqR.mk a0 a1 r2 r3 r4 a5 a6 a7 a8 zTag).cells.toArray w' ∧ RowN spC (b + 1) w' r2 ∧ RowN tgC (b + 1) w' r3 ∧ RowN tgC (b + 1) w' r4) ?_ ?_
    · exact ⟨(h1.set 8 (.int .i64 a8)).to rfl, (n2.cell (p := ⟨b, 8, none⟩) (Nat.lt_succ_self _) (.int .i64 a8)), (n3.cell (p := ⟨b, 8, none⟩) (Nat.lt_succ_self _) (.int .i64 a8)), (n4.cell (p := ⟨b, 8, none⟩) (Nat.lt_succ_self _) (.int .i64 a8))⟩
    clear h1 k0 f0 n2 n3 n4
    rintro v9 ⟨h0, n2, n3, n4⟩
    obtain ⟨a9, s10, q9⟩ : ∃ a s', pTag s9 = (a, s') := ⟨_, _, rfl⟩
    have bX := h0.older bX0 (by omega) (by omega)
    have x0 := bX.at_ (i := 0) (v := .pointer (some ⟨g, 0, none⟩)) rfl
    have C := rtag_calls w0 v9 g _ s9 h0.ok hS
    rw [q9] at C
    replace q9 := Lib.hid q9
    go_upto_region 10 with (go_at_call 124; refine C.mono ?_; rintro _ w2 ⟨rfl, R⟩; have h1 := h0.call R; have n2 := n2.kept R.kept (fun k hk => by omega); have n3 := n3.kept R.kept (fun k hk => by omega); have n4 := n4.kept R.kept (fun k hk => by omega); have k0 := h1.at_ (i := 9) (v := .string ⟨#[]⟩) rfl; have f0 := h1.blk.frozen 9; have k1 := h1.at_ (i := 10) (v := .bool false) rfl; have f1 := h1.blk.frozen 10; clear h0 R C bX x0)
    with_reducible refine code_abs (fun w' => Holds w0 wc g b (fun k => (F k ∨ w.heap.size ≤ k) ∨ wz.heap.size ≤ k) 29 s10 (ReqR.mk a0 a1 r2 r3 r4 a5 a6 a7 a8 a9).cells.toArray w' ∧ RowN spC (b + 1) w' r2 ∧ RowN tgC (b + 1) w' r3 ∧ RowN tgC (b + 1) w' r4) ?_ ?_
    · exact ⟨((h1.set 9 (.string (bstr a9.text))).set 10 (.bool a9.weak)).to rfl, ((n2.cell (p := ⟨b, 9, none⟩) (Nat.lt_succ_self _) (.string (bstr a9.text))).cell (p := ⟨b, 10, none⟩) (Nat.lt_succ_self _) (.bool a9.weak)), ((n3.cell (p := ⟨b, 9, none⟩) (Nat.lt_succ_self _) (.string (bstr a9.text))).cell (p := ⟨b, 10, none⟩) (Nat.lt_succ_self _) (.bool a9.weak)), ((n4.cell (p := ⟨b, 9, none⟩) (Nat.lt_succ_self _) (.string (bstr a9.text))).cell (p := ⟨b, 10, none⟩) (Nat.lt_succ_self _) (.bool a9.weak))⟩
    clear h1 k0 f0 k1 f1 n2 n3 n4
    rintro v10 ⟨h0, n2, n3, n4⟩
    have hR := h0.older bR2 (by omega) (by omega)
    have hX := h0.blk
    have hR' : v10.heap[(w.heap.size + 1)]? = some (Obj.cells #[.bool false, .string ⟨#[]⟩, .slice none 0 0, .slice none 0 0, .slice none 0 0, .bool false, .bool false, .int .i64 0, .int .i64 0, .string ⟨#[]⟩, .bool false] 29) := hR
    have hX' : v10.heap[b]? = some (Obj.cells (ReqR.mk a0 a1 r2 r3 r4 a5 a6 a7 a8 a9).cells.toArray 29) := hX
    with_reducible refine wp_region_lit ?_
    with_reducible refine wpList_load_row rfl 29 (.tmp 3) rfl b (by kernel_rfl) 29 (ReqR.mk a0 a1 r2 r3 r4 a5 a6 a7 a8 a9).cells.toArray (0, 0) _ hX' Tryz.underlying29 (by kernel_rfl) (by kernel_rfl) ?_
    go_frame
    with_reducible refine wpList_store_row rfl 29 (.tmp 2) (.tmp 45) rfl (w.heap.size + 1) (ReqR.mk a0 a1 r2 r3 r4 a5 a6 a7 a8 a9).cells.toArray (by kernel_rfl) (by kernel_rfl) 29 #[.bool false, .string ⟨#[]⟩, .slice none 0 0, .slice none 0 0, .slice none 0 0, .bool false, .bool false, .int .i64 0, .int .i64 0, .string ⟨#[]⟩, .bool false] hR' (by kernel_rfl) (by kernel_rfl) (by kernel_rfl) (wpList_nil ?_)
    have bT : (v10.setRow ((w.heap.size + 1)) (ReqR.mk a0 a1 r2 r3 r4 a5 a6 a7 a8 a9).cells.toArray).heap[(w.heap.size + 1)]? = some (Obj.cells (ReqR.mk a0 a1 r2 r3 r4 a5 a6 a7 a8 a9).cells.toArray 29) := hR.setRow_ _
    simp only [Act.put]
    repeat go_step
    (try simp only [Exit.inBlock, Exit.then])
    refine bodyPost_ret (results_cell_row rfl _ _ ((w.heap.size + 1)) 29 (ReqR.mk a0 a1 r2 r3 r4 a5 a6 a7 a8 a9).cells.toArray (0, 0) _ (by kernel_rfl) bT Tryz.underlying29 (by kernel_rfl) (by kernel_rfl)) rfl ?_
    have hH := (H0.call (Holds.hold hx h0 hle).done).setRow (Nat.le_succ w.heap.size) (ReqR.mk a0 a1 r2 r3 r4 a5 a6 a7 a8 a9).cells.toArray
    have e : pReq s = (⟨a0, a1, r2.l, ⟨r3.l, r4.l, a5, a6, a7, a8, a9⟩⟩, s10) := by unfold pReq pCnd; simp only [q0.out, q1.out, q2.out, q3.out, q4.out, q5.out, q6.out, q7.out, q8.out, q9.out, l2.out, l3.out, l4.out]
    rw [e]
    exact ⟨(ReqR.mk a0 a1 r2 r3 r4 a5 a6 a7 a8 a9), rfl, rfl, (n2.setRow (by omega) _).older (by omega), (n3.setRow (by omega) _).older (by omega), (n4.setRow (by omega) _).older (by omega), hH.done⟩
end Go.Proofs.YtiokbebodblhaaaGreatDoor
namespace Go.Proofs.YtiokbebodblhaaaGreatDoor
open Go.RowKit TraceP

def ev (k t n w : Int) : EvtR := { zEvtR with kind := k, tick := t, node := n, who := w }
/-- The last kind ahead of k that a word is. -/
def kupto (t : Txt) : Nat → Nat
  | 0 => 0
  | k + 1 => if 1 ≤ k ∧ kindT k = t then k else kupto t k
theorem kupto_lt (t : Txt) : ∀ k, kupto t k = 0 ∨ (1 ≤ kupto t k ∧ kupto t k < k ∧ kindT (kupto t k) = t)
  | 0 => .inl rfl
  | k + 1 => by
    unfold kupto
    split
    · rename_i h
      exact .inr ⟨h.1, Nat.lt_succ_self _, h.2⟩
    · rcases kupto_lt t k with h | ⟨h1, h2, h3⟩
      · exact .inl h
      · exact .inr ⟨h1, by omega, h3⟩
theorem kupto_ge (t : Txt) : ∀ k j, 1 ≤ j → j < k → kindT j = t → kupto t k ≠ 0
  | 0, j, _, h, _ => by omega
  | k + 1, j, h1, h2, h3 => by
    unfold kupto
    split
    · rename_i h; omega
    · rename_i h
      exact kupto_ge t k j h1 (by
        rcases Nat.lt_or_ge j k with h4 | h4
        · exact h4
        · obtain rfl : j = k := by omega
          exact absurd ⟨h1, h3⟩ h) h3
theorem kupto_of (t : Txt) : kupto t 17 = kindOf t := by
  by_cases h : kindOf t = 0
  · rw [h]
    rcases kupto_lt t 17 with e | ⟨h1, h2, h3⟩
    · exact e
    · have := kindOf_kindT ⟨h1, by omega⟩
      rw [h3, h] at this
      omega
  · obtain ⟨h1, h2⟩ := kindOf_some h
    have hl := kindOf_le t
    rcases kupto_lt t 17 with e | ⟨h3, h4, h5⟩
    · exact absurd e (kupto_ge t 17 _ h2 (by omega) h1)
    · exact kindT_inj ⟨h3, by omega⟩ ⟨h2, by omega⟩ (h5.trans h1.symm)
/-- The rows of an event that a call has made. -/
structure EvtN (B : Nat) (w : World) (e : EvtR) : Prop where
  specs : RowN spC B w e.req.specs
  mtch : RowN tgC B w e.req.mtch
  non : RowN tgC B w e.req.non
  mkeys : RowN txC B w e.met.keys
  fields : RowN fdC B w e.ans.fields
  parts : RowN ptC B w e.ans.parts
  rkeys : RowN txC B w e.rep.met.keys
  bytes : RowN byC B w e.bytes
  keys : RowN txC B w e.keys
theorem RowN.max {α : Type} {c : α → List Value} {B : Nat} {w : World} {r : Row α} (h : RowN c B w r) : r.l.length ≤ 9223372036854775807 := Nat.le_trans h.le h.cap
theorem metI_of {m : TraceP.Met} (h : MetP m) : MetI m := ⟨h.modi, h.len, h.have_, h.fresh, h.while_, h.error, Nat.le_trans h.keys.1 (by decide)⟩
theorem EvtN.ok {B : Nat} {w : World} {e : EvtR} (h : EvtN B w e) (p : EvtP e.abs) : EvtOK w e :=
  ⟨⟨Int.le_trans (by decide) p.kind.1, Int.le_trans p.kind.2 (by decide)⟩, p.tick, p.node, p.who,
    ⟨h.specs.ok, h.mtch.ok, h.non.ok, ⟨⟨h.specs.max, p.req.specs.2⟩, h.mtch.max, h.non.max, p.req.since, p.req.unless_⟩⟩,
    ⟨h.mkeys.ok, metI_of p.met⟩,
    ⟨h.fields.ok, h.parts.ok, p.ans.status, h.fields.max, ⟨h.parts.max, fun x hx => (p.ans.parts.2 x hx).2⟩, p.ans.size⟩,
    p.fet.span, ⟨⟨h.rkeys.ok, metI_of p.rep.met⟩, p.rep.status, metI_of p.rep.met, p.rep.span, p.rep.age⟩, h.bytes.ok, h.keys.ok⟩
theorem EvtN.below {B : Nat} {w w' : World} {e : EvtR} (h : EvtN B w e) (d : Below w.heap.size w w') : EvtN B w' e :=
  ⟨h.specs.below d, h.mtch.below d, h.non.below d, h.mkeys.below d, h.fields.below d, h.parts.below d, h.rkeys.below d, h.bytes.below d, h.keys.below d⟩
theorem EvtN.older {B B' : Nat} {w : World} {e : EvtR} (h : EvtN B w e) (d : B' ≤ B) : EvtN B' w e :=
  ⟨h.specs.older d, h.mtch.older d, h.non.older d, h.mkeys.older d, h.fields.older d, h.parts.older d, h.rkeys.older d, h.bytes.older d, h.keys.older d⟩
theorem EvtN.setRow {B g : Nat} {w : World} {e : EvtR} (h : EvtN B w e) (d : g < B) (cs : Array Value) : EvtN B (w.setRow g cs) e :=
  ⟨h.specs.setRow d cs, h.mtch.setRow d cs, h.non.setRow d cs, h.mkeys.setRow d cs, h.fields.setRow d cs, h.parts.setRow d cs, h.rkeys.setRow d cs, h.bytes.setRow d cs, h.keys.setRow d cs⟩
theorem Holds.ownRow {w0 w1 w : World} {g b : Nat} {F : Nat → Prop} {T : TypeId} {s : RdS} {cs : Array Value} (h : Holds w0 w1 g b F T s cs w) (cs' : Array Value) : Holds w0 w1 g b F T s cs' (w.setRow b cs') := by
  have K : Kept (fun k => k = b) w (w.setRow b cs') := ⟨rfl, rfl, rfl, by simp, fun k _ hk => setRow_far cs' 0 (by omega)⟩
  have hl := h.lt
  exact ⟨h.ok.keptF K fun k hk => ⟨.inr (by omega), by omega, by have := h.lo; omega⟩, h.blk.setRow_ cs', h.kept.trans (K.mono fun k _ hk => .inr hk), h.lt, h.hF, h.lo, h.sz⟩
theorem rbytesR_calls (w0 w : World) (g : Nat) (F : Nat → Prop) (s : RdS) (H : RdOK w0 w g F s) (hS : Std w0) :
    Calls Tryz.prog 84 #[.pointer (some ⟨g, 0, none⟩)] w fun e w' => ∃ r : Row UInt8, e = .returned r.val ∧ r.l = (pText s).1 ∧ RowN byC w.heap.size w' r ∧ Reads w0 g F (pText s).2 w w' := by
  refine (rbytes_calls w0 w g F s H hS (Nat.le_trans (text_eats.out s H.shs) (by decide))).mono ?_
  rintro e w' ⟨v, rfl, N, R⟩
  obtain ⟨r, rfl, h1, h2⟩ := N.row
  exact ⟨r, rfl, h1, h2, R⟩
end Go.Proofs.YtiokbebodblhaaaGreatDoor
