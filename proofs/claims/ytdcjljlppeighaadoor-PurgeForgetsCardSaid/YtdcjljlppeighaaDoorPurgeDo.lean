/-
  The statements' do: one call on both logs.
-/
import Derived.Test.YtdcjljlppeighaaDoorPurgeBoth
namespace Go.Proofs.YtdcjljlppeighaaDoor
open Go.RowKit PurgeP

/-- What do tells, and what it leaves. -/
def RetDo (w : World) (base : Nat) (y : LogR) (z : RefR) (S : PLog) (e : Ending) (w' : World) : Prop :=
  e = .returned (.bool true) ∧ ∃ y' z', BothOK w' base y' z' S ∧ y'.D = y.D ∧ z'.M = z.M ∧ Below base w w'
set_option maxHeartbeats 1600000 in
set_option maxRecDepth 100000 in
theorem do_add (y : LogR) (z : RefR) (P : PLog) (keys : List Txt) (A : Option Addr) (cap : Nat) (hard : Bool) (n : Int) (W w : World) (hW : Below W.heap.size W w) (h : BothOK w W.heap.size y z P) (hR : RS W A keys) (hg : keys.length ≤ 1000) :
    Calls Tryd.prog 14 #[.pointer (some ⟨y.D, 0, none⟩), .pointer (some ⟨z.M, 0, none⟩), .agg #[.int .i64 1, .slice A keys.length cap, .bool hard, .int .i64 n]] w (RetDo w W.heap.size y z (P.addS keys hard)) := by
  have xb := Blk.new w 33 #[.int .i64 1, .slice A keys.length cap, .bool hard, .int .i64 n]
  have B1 : Below w.heap.size w (w.alloc (.cells #[.int .i64 1, .slice A keys.length cap, .bool hard, .int .i64 n] 33)) := (Below.refl _ _).alloc (Nat.le_refl _) _
  go_enter Tryd.func14, Tryd.ntmps14
  go_wp2_with fail
  generalize w.alloc (.cells #[.int .i64 1, .slice A keys.length cap, .bool hard, .int .i64 n] 33) = w1 at *
  have h1 := h.below B1
  have HW1 : Below W.heap.size W w1 := hW.trans (B1.mono hW.size)
  have hR1 := hR.below HW1
  have c1 : w1.cell? ⟨w.heap.size, 1, none⟩ = some (.slice A keys.length cap) := xb.at_ rfl
  have c2 : w1.cell? ⟨w.heap.size, 2, none⟩ = some (.bool hard) := xb.at_ rfl
  have c1a : ∀ o, (w1.alloc o).cell? ⟨w.heap.size, 1, none⟩ = some (.slice A keys.length cap) := fun o => (xb.alloc o).at_ rfl
  have c2a : ∀ o, (w1.alloc o).cell? ⟨w.heap.size, 2, none⟩ = some (.bool hard) := fun o => (xb.alloc o).at_ rfl
  have hxl := xb.lt
  have HA : Hid (∀ (w4 : World) (A4 : Option Addr) (c4 : Nat), Below w1.heap.size w1 w4 → w4.ownsRow w1.heap.size 9 1 (.slice A4 keys.length c4) keys.length (cS keys) →
      Calls Tryd.prog 36 #[.pointer (some ⟨y.D, 0, none⟩), .slice A4 keys.length c4, .bool hard] w4 (fun e w5 => e = .returned (.tuple #[.int .i64 (P.addN keys hard), .int .i64 (P.addE keys hard)]) ∧
        ∃ y', y'.D = y.D ∧ LogOK w5 W.heap.size (fun k => k = z.M) y' ∧ RefOK w5 y'.foot z ∧ y'.abs = P.addS keys hard ∧ Below W.heap.size w w5 ∧ Blk w5 w.heap.size 33 #[.int .i64 1, .slice A keys.length cap, .bool hard, .int .i64 n])) := by
    intro w4 A4 c4 b4 o4
    have h4 := h1.below b4
    obtain ⟨_, _, e4, hk4, hc4⟩ := own_form o4
    injection e4 with _ _ e4
    subst e4
    unfold maxLen at hc4
    have := add_calls y keys keys.length rfl hard A4 c4 w4 W.heap.size (fun k => k = z.M) (fun k hk => by rw [hk]; exact h4.R.bk.lt) h4.bs h4.L (RV.of_own o4) hk4 (by omega)
    rw [h4.ya] at this
    refine this.mono ?_
    rintro e w5 ⟨rfl, hn⟩
    obtain ⟨y', e1, e2, e3, e4, e5, e6⟩ := h4.left hn
    refine ⟨rfl, y', e1, e2, e3, e4, ((B1.trans (b4.mono B1.size)).mono h.bs).trans e5, ?_⟩
    have xb4 := xb.below b4 hxl
    exact (e6.block _ xb4.lt (fun hf => by
      have hft : y.foot w.heap.size := hf
      have := (h.L.foot_lt hft).2
      omega)).trans xb4
  have BF := B1
  clear xb
  go_region_law (first
    | (refine step_append_rv (A := A) (m := keys.length) (c := cap) (v := .slice (some ⟨w1.heap.size, 0, none⟩) 0 0) (n := 0) (base := w1.heap.size) (xs := []) el_string rfl (.tmp 17) (.tmp 19) rfl rfl (own_empty w1.drew 9 1 (Nat.le_refl _)) rfl (by rw [cS_len]; omega) ((hR1.drew).alloc _) (cS_one _) (by unfold maxLen; omega) (by omega) (by simp) ?_; intro v4 w4 own4 gr4 hv4; (have own5 : w4.ownsRow w1.heap.size 9 1 v4 keys.length (cS keys) := by simpa using own4); (obtain ⟨A4, c4, hv4f, _, _⟩ := own_form own5); subst hv4f; have b4 : Below w1.heap.size w1 w4 := Below.grown (((Below.refl _ w1).drew).alloc (Nat.le_refl _) _) gr4 (by simp) (fun j hj => by have hj : w1.heap.size = j := Option.some.inj hj; omega); have d2 : w4.cell? ⟨w.heap.size, 2, none⟩ = some (.bool hard) := (b4.cell (p := ⟨w.heap.size, 2, none⟩) hxl).trans c2; have HC := HA.out w4 A4 c4 b4 own5; clear own4 own5 gr4 hv4)
    | (go_simp; go_at_call 36; refine HC.mono ?_; rintro e w5 ⟨rfl, y', hD, hL, hRf, ha, hb5, xb5⟩; have c1 : w5.cell? ⟨w.heap.size, 1, none⟩ = some (.slice A keys.length cap) := xb5.at_ rfl; have c2 : w5.cell? ⟨w.heap.size, 2, none⟩ = some (.bool hard) := xb5.at_ rfl)
    | fail "arm")
  all_goals
    have q1 : (P.addN keys hard == P.addN keys hard) = true := beq_self_eq_true _
    have q2 : (P.addE keys hard == P.addE keys hard) = true := beq_self_eq_true _
    have RA := radd_calls z keys hard A cap w5 y'.foot (fun k hk => (hL.foot_lt hk).2) hRf (hR.below (hW.trans hb5)) (by omega)
    rw [h.za] at RA
    have HL := Lib.hid hL
    have HY := Lib.hid ha
    have HB5 := Lib.hid hb5
    clear hL hRf ha hb5 xb5 HA b4 HC
    go_wp2_with fail
    refine RA.mono ?_
    clear RA
    rintro e w6 ⟨rfl, hn⟩
    obtain ⟨z', m1, m2, m3, m4⟩ := both_right HL.out HY.out h.bM (Nat.le_trans h.bs HB5.out.size) hn
    have HF : Hid (RetDo w W.heap.size y z (P.addS keys hard) (.returned (.bool true)) w6) := ⟨rfl, y', z', m2, hD, m1, HB5.out.trans m3⟩
    clear m1 m2 m3 m4 hn HL HY HB5 h h1
    go_wp2_with fail
    go_ret
    exact HF.out
set_option maxHeartbeats 1600000 in
set_option maxRecDepth 100000 in
theorem do_forget (y : LogR) (z : RefR) (P : PLog) (keys : List Txt) (A : Option Addr) (cap : Nat) (hard : Bool) (n : Int) (W w : World) (h : BothOK w W.heap.size y z P) :
    Calls Tryd.prog 14 #[.pointer (some ⟨y.D, 0, none⟩), .pointer (some ⟨z.M, 0, none⟩), .agg #[.int .i64 2, .slice A keys.length cap, .bool hard, .int .i64 n]] w (RetDo w W.heap.size y z (P.forS n)) := by
  have xb := Blk.new w 33 #[.int .i64 2, .slice A keys.length cap, .bool hard, .int .i64 n]
  have B1 : Below w.heap.size w (w.alloc (.cells #[.int .i64 2, .slice A keys.length cap, .bool hard, .int .i64 n] 33)) := (Below.refl _ _).alloc (Nat.le_refl _) _
  go_enter Tryd.func14, Tryd.ntmps14
  go_wp2_with fail
  generalize w.alloc (.cells #[.int .i64 2, .slice A keys.length cap, .bool hard, .int .i64 n] 33) = w1 at *
  have h1 := h.below B1
  have c3 : w1.cell? ⟨w.heap.size, 3, none⟩ = some (.int .i64 n) := xb.at_ rfl
  have HA : Hid (∀ w2, Below w1.heap.size w1 w2 → Calls Tryd.prog 26 #[.pointer (some ⟨y.D, 0, none⟩), .int .i64 n] w2 (fun e w5 => e = .returned (.int .i64 (P.forE n)) ∧
        ∃ y', y'.D = y.D ∧ LogOK w5 W.heap.size (fun k => k = z.M) y' ∧ RefOK w5 y'.foot z ∧ y'.abs = P.forS n ∧ Below W.heap.size w w5 ∧ Blk w5 w.heap.size 33 #[.int .i64 2, .slice A keys.length cap, .bool hard, .int .i64 n])) := by
    intro w2 b2
    have h2 := h1.below b2
    have := forget_calls y n w2 W.heap.size (fun k => k = z.M) (fun k hk => by rw [hk]; exact h2.R.bk.lt) h2.bs h2.L
    rw [h2.ya] at this
    refine this.mono ?_
    rintro e w5 ⟨rfl, hn⟩
    obtain ⟨y', e1, e2, e3, e4, e5, e6⟩ := h2.left hn
    have xb2 := xb.below b2 xb.lt
    refine ⟨rfl, y', e1, e2, e3, e4, ((B1.trans (b2.mono B1.size)).mono h.bs).trans e5, ?_⟩
    exact (e6.block _ xb2.lt (fun hf => by
      have hft : y.foot w.heap.size := hf
      have := (h.L.foot_lt hft).2
      omega)).trans xb2
  have hq : (P.forE n == P.forE n) = true := beq_self_eq_true _
  have hdw : Below w1.heap.size w1 w1.drew := (Below.refl _ w1).drew
  clear xb
  go_region_law (first
    | (go_simp; go_at_call 26; refine (HA.out _ hdw).mono ?_; rintro e w5 ⟨rfl, y', hD, hL, hRf, ha, hb5, xb5⟩; have d3 : w5.cell? ⟨w.heap.size, 3, none⟩ = some (.int .i64 n) := xb5.at_ rfl)
    | (go_simp; go_at_call 38; (have RF := rforget_calls z n w5 y'.foot hRf); rw [h.za] at RF; refine RF.mono ?_; clear RF; rintro e w6 ⟨rfl, hn⟩; (obtain ⟨z', m1, m2, m3, m4⟩ := both_right hL ha h.bM (Nat.le_trans h.bs hb5.size) hn); have HF : Hid (RetDo w W.heap.size y z (P.forS n) (.returned (.bool true)) w6) := ⟨rfl, y', z', m2, hD, m1, hb5.trans m3⟩; clear m1 m2 m3 m4 hn)
    | fail "arm")
  all_goals
    clear h1 HA
    go_wp2_with fail
    go_ret
    exact HF.out
theorem do_other (y : LogR) (z : RefR) (P : PLog) (kind : Int) (keys : List Txt) (A : Option Addr) (cap : Nat) (hard : Bool) (n : Int) (W w : World) (h : BothOK w W.heap.size y z P) (k1 : kind ≠ 1) (k2 : kind ≠ 2) :
    Calls Tryd.prog 14 #[.pointer (some ⟨y.D, 0, none⟩), .pointer (some ⟨z.M, 0, none⟩), .agg #[.int .i64 kind, .slice A keys.length cap, .bool hard, .int .i64 n]] w (RetDo w W.heap.size y z P) := by
  have B1 : Below w.heap.size w (w.alloc (.cells #[.int .i64 kind, .slice A keys.length cap, .bool hard, .int .i64 n] 33)) := (Below.refl _ _).alloc (Nat.le_refl _) _
  have e1 : (kind == 1) = false := beq_eq_false_iff_ne.2 k1
  have e2 : (kind == 2) = false := beq_eq_false_iff_ne.2 k2
  have HF : Hid (RetDo w W.heap.size y z P (.returned (.bool true)) (w.alloc (.cells #[.int .i64 kind, .slice A keys.length cap, .bool hard, .int .i64 n] 33))) := ⟨rfl, y, z, h.below B1, rfl, rfl, B1.mono h.bs⟩
  clear h
  go_enter Tryd.func14, Tryd.ntmps14
  go_wp2_with fail
  go_ret
  exact HF.out
theorem do_calls (y : LogR) (z : RefR) (P : PLog) (a : ActR) (W w : World) (hW : Below W.heap.size W w) (h : BothOK w W.heap.size y z P) (ha : ActOK W a) (hg : greatB a.keys = false) :
    Calls Tryd.prog 14 #[.pointer (some ⟨y.D, 0, none⟩), .pointer (some ⟨z.M, 0, none⟩), .agg #[.int .i64 a.kind, .slice a.A a.keys.length a.cap, .bool a.hard, .int .i64 a.n]] w (RetDo w W.heap.size y z (stepP P a)) := by
  unfold stepP
  by_cases h1 : a.kind = 1
  · rw [if_pos h1, h1]
    exact do_add y z P a.keys a.A a.cap a.hard a.n W w hW h ha.ks.rs (by have := (great_no hg).1; omega)
  · rw [if_neg h1]
    by_cases h2 : a.kind = 2
    · rw [if_pos h2, h2]
      exact do_forget y z P a.keys a.A a.cap a.hard a.n W w h
    · rw [if_neg h2]
      exact do_other y z P a.kind a.keys a.A a.cap a.hard a.n W w h h1 h2
end Go.Proofs.YtdcjljlppeighaaDoor
