/-
  The walk of PurgeForgets: where nothing is asked; what Forget tells.
-/
import Derived.Test.YtdcjljlppeighaaDoorPurgeLawF
namespace Go.Proofs.YtdcjljlppeighaaDoor
open Go.RowKit PurgeP

/-- What is known of both logs behind a Forget: what each call on them tells. -/
structure Forgot (w w8 : World) (D M bx : Nat) (P Q : PLog) (ks : List Txt) (B : Option Addr) (cb : Nat) (b c : Int) (cs : Array Value) : Prop where
  bel : Below w.heap.size w w8
  bb : Blk w8 bx 46 cs
  zf : w8.cell? ⟨M, 1, none⟩ = some (.int .i64 P.floor)
  Ml : M < w8.heap.size
  fl : ∀ w9, Below w8.heap.size w8 w9 → Calls Tryd.prog 17 #[.pointer (some ⟨D, 0, none⟩)] w9 fun e w' => e = .returned (.int .i64 Q.floor) ∧ w9 = w'
  nw : ∀ w9, Below w8.heap.size w8 w9 → Calls Tryd.prog 15 #[.pointer (some ⟨D, 0, none⟩)] w9 fun e w' => e = .returned (.int .i64 P.now) ∧ Below w9.heap.size w9 w'
  rn : ∀ w9, Below w8.heap.size w8 w9 → Calls Tryd.prog 16 #[.pointer (some ⟨M, 0, none⟩)] w9 fun e w' => e = .returned (.int .i64 P.now) ∧ Below w9.heap.size w9 w'
  la : ∀ w9, Below w8.heap.size w8 w9 → ∀ hd, Calls Tryd.prog 22 #[.pointer (some ⟨D, 0, none⟩), .slice B ks.length cb, .int .i64 b, .int .i64 c, .bool hd] w9 (RetNum (Q.last ks b c hd) w9)
  an : ∀ w9, Below w8.heap.size w8 w9 → Calls Tryd.prog 24 #[.pointer (some ⟨D, 0, none⟩), .int .i64 b, .int .i64 c] w9 fun e w' => e = .returned (.bool (Q.any b c)) ∧ Below w9.heap.size w9 w'
theorem forgot_calls {w w7 : World} {base : Nat} {y : LogR} {z : RefR} {P : PLog} (h : BothOK w7 base y z P) (hb0 : w.heap.size ≤ base) (bel : Below w.heap.size w w7) {bx : Nat} {cs : Array Value} (hbx : bx < base) (bb : Blk w7 bx 46 cs) {ks : List Txt} {B : Option Addr} {cb : Nat} (hk : RS w B ks) (hkl : ks.length ≤ 9223372036854775807) (a b c : Int) (h0 : 0 ≤ a) (h1 : a ≤ P.now) :
    Calls Tryd.prog 26 #[.pointer (some ⟨y.D, 0, none⟩), .int .i64 a] w7 fun e w8 => e = .returned (.int .i64 0) ∧ Forgot w w8 y.D z.M bx P (P.forS a) ks B cb b c cs := by
  have hPok : P.OK := by have := h.L.ok; rwa [h.ya] at this
  obtain ⟨q0, q1, q2⟩ := for_floor hPok h0 h1
  have FC := forget_calls y a w7 base (fun k => k = z.M) (fun k hk => by rw [hk]; exact h.R.bk.lt) h.bs h.L
  rw [h.ya, q0] at FC
  refine FC.mono ?_
  rintro e w8 ⟨rfl, hn⟩
  obtain ⟨y', e1, e2, e3, e4, e5, e6⟩ := h.left hn
  have b8 : Below w.heap.size w w8 := bel.trans (e5.mono hb0)
  have zf : z.floor = P.floor := congrArg PLog.floor h.za
  rw [← e1]
  refine ⟨rfl, b8, (e5.block bx hbx).trans bb, by rw [← zf]; exact e3.bk.at_ rfl, e3.bk.lt, fun w9 b9 => ?_, fun w9 b9 => ?_, fun w9 b9 => ?_, fun w9 b9 hd => ?_, fun w9 b9 => ?_⟩
  · have := floor_calls y' w9 base _ (e2.below b9)
    rw [show y'.floor = (P.forS a).floor from congrArg PLog.floor e4] at this
    exact this
  · have := now_calls y' w9 base _ (e2.below b9)
    rw [e4, q2] at this
    exact this.mono fun e w' ⟨h1, q, h2⟩ => ⟨h1, by rw [h2]; exact drewN_below w9 q⟩
  · have := rnow_calls z w9 _ (e3.below b9)
    rw [h.za] at this
    exact this.mono fun e w' ⟨h1, q, h2⟩ => ⟨h1, by rw [h2]; exact drewN_below w9 q⟩
  · have := last_calls y' ks ks.length rfl b c hd B cb w9 base _ (e2.below b9) (hk.below (b8.trans (b9.mono b8.size))) hkl
    rw [e4] at this
    exact this
  · have := any_calls y' b c w9 base _ (e2.below b9)
    rw [e4] at this
    exact this
set_option maxHeartbeats 1600000 in
set_option maxRecDepth 100000 in
theorem purgeForgets_off1 (l : List ActR) (A : Option Addr) (cap : Nat) (ks : List Txt) (B : Option Addr) (cb : Nat) (a b c : Int) (w : World) (hS : Std w) (hl : l.length ≤ 9223372036854775807) (hR : RV w A (l.flatMap ActR.cells)) (hx : ∀ o ∈ l, ActOK w o) (hk : KeysOK w B ks cb) (hg : greatA l = true) :
    Calls Tryd.prog 6 #[.slice A l.length cap, .slice B ks.length cb, .agg #[.int .i64 a, .int .i64 b, .int .i64 c]] w fun e w' => e = .returned (.bool true) ∧ Below w.heap.size w w' := by
  have B1 : Below w.heap.size w (w.alloc (.cells #[.int .i64 a, .int .i64 b, .int .i64 c] 46)) := (Below.refl _ _).alloc (Nat.le_refl _) _
  have xb := Blk.new w 46 #[.int .i64 a, .int .i64 b, .int .i64 c]
  go_enter Tryd.func6, Tryd.ntmps6
  go_wp2_with fail
  generalize w.alloc (.cells #[.int .i64 a, .int .i64 b, .int .i64 c] 46) = w1 at *
  have hR1 := hR.below B1
  have hx1 : ∀ o ∈ l, ActOK w1 o := fun o ho => (hx o ho).below B1
  have hkl : ks.length ≤ 9223372036854775807 := by have := hk.le; have := hk.cap; omega
  go_wp2_with fail
  refine (run_no l A cap w1 hl hR1 hx1 hg).mono ?_
  rintro e w2 ⟨M, rfl, b2⟩
  have B2 := B1.trans (b2.mono B1.size)
  have xb2 := xb.below b2 xb.lt
  have hxl := xb2.lt
  have bd2 : Below w2.heap.size w2 w2.drew := (Below.refl _ _).drew
  have c0 : w2.cell? ⟨w.heap.size, 0, none⟩ = some (.int .i64 a) := xb2.at_ rfl
  have KK : ∀ wq, Below w2.heap.size w2 wq → wq.cell? ⟨w.heap.size, 0, none⟩ = some (.int .i64 a) := fun wq hb => (hb.cell (p := ⟨w.heap.size, 0, none⟩) hxl).trans c0
  have AW : ∀ wq, Below w2.heap.size w2 wq → Calls Tryd.prog 12 #[] wq fun e w' => e = .returned (.bool true) ∧ Below wq.heap.size wq w' := fun wq hb => awake_calls wq (hS.below (B2.trans (hb.mono B2.size)))
  clear hR hR1 hx hx1 b2 xb
  go_wp2_with fail
  first | (go_region_law (first
    | (go_simp; go_at_call 12; refine (AW _ bd2).mono ?_; rintro e w3 ⟨rfl, b3x⟩; have b3 := bd2.trans (b3x.mono bd2.size); have k3 := KK _ b3; clear b3x)
    | fail "arm")) | fail "region"
  all_goals
    have B4 := B2.trans (b3.mono B2.size)
    have AW := awake_calls _ (hS.below B4)
    go_wp2_with fail
    refine AW.mono ?_
    clear AW
    rintro e w9 ⟨rfl, b9⟩
    go_wp2_with fail
    go_ret
    exact ⟨rfl, B4.trans (b9.mono B4.size)⟩
set_option maxHeartbeats 1600000 in
set_option maxRecDepth 100000 in
theorem purgeForgets_off2 (l : List ActR) (A : Option Addr) (cap : Nat) (ks : List Txt) (B : Option Addr) (cb : Nat) (a b c : Int) (w : World) (hS : Std w) (hl : l.length ≤ 9223372036854775807) (hR : RV w A (l.flatMap ActR.cells)) (hx : ∀ o ∈ l, ActOK w o) (hk : KeysOK w B ks cb) (hg : greatA l = false) (hgk : greatB ks = true) :
    Calls Tryd.prog 6 #[.slice A l.length cap, .slice B ks.length cb, .agg #[.int .i64 a, .int .i64 b, .int .i64 c]] w fun e w' => e = .returned (.bool true) ∧ Below w.heap.size w w' := by
  have B1 : Below w.heap.size w (w.alloc (.cells #[.int .i64 a, .int .i64 b, .int .i64 c] 46)) := (Below.refl _ _).alloc (Nat.le_refl _) _
  have xb := Blk.new w 46 #[.int .i64 a, .int .i64 b, .int .i64 c]
  go_enter Tryd.func6, Tryd.ntmps6
  go_wp2_with fail
  generalize w.alloc (.cells #[.int .i64 a, .int .i64 b, .int .i64 c] 46) = w1 at *
  have hR1 := hR.below B1
  have hx1 : ∀ o ∈ l, ActOK w1 o := fun o ho => (hx o ho).below B1
  have hkl : ks.length ≤ 9223372036854775807 := by have := hk.le; have := hk.cap; omega
  go_wp2_with fail
  refine (run_yes l A cap w1 hl hR1 hx1 hg).mono ?_
  rintro e w2 ⟨y, z, rfl, hB, b2⟩
  have B2 := B1.trans (b2.mono B1.size)
  have xb2 := xb.below b2 xb.lt
  have hxl := xb2.lt
  have bd2 : Below w2.heap.size w2 w2.drew := (Below.refl _ _).drew
  have c0 : w2.cell? ⟨w.heap.size, 0, none⟩ = some (.int .i64 a) := xb2.at_ rfl
  have KK : ∀ wq, Below w2.heap.size w2 wq → wq.cell? ⟨w.heap.size, 0, none⟩ = some (.int .i64 a) := fun wq hb => (hb.cell (p := ⟨w.heap.size, 0, none⟩) hxl).trans c0
  have AW : ∀ wq, Below w2.heap.size w2 wq → Calls Tryd.prog 12 #[] wq fun e w' => e = .returned (.bool true) ∧ Below wq.heap.size wq w' := fun wq hb => awake_calls wq (hS.below (B2.trans (hb.mono B2.size)))
  have GC : ∀ wq, Below w2.heap.size w2 wq → Calls Tryd.prog 21 #[.slice B ks.length cb] wq fun e w' => e = .returned (.bool (greatB ks)) ∧ wq = w' := fun wq hb => rgreat_calls ks B cb wq (hk.below (B2.trans (hb.mono B2.size))).rs hkl hk.small
  rw [hgk] at GC
  clear hR hR1 hx hx1 b2 xb hB
  go_wp2_with fail
  first | (go_region_law (first
    | (go_simp; go_at_call 12; refine (AW _ bd2).mono ?_; rintro e w3 ⟨rfl, b3x⟩; have b3 := bd2.trans (b3x.mono bd2.size); have k3 := KK _ b3; clear b3x)
    | (go_simp; go_at_call 21; refine (GC _ b3).mono ?_; rintro e w3b ⟨rfl, rfl⟩)
    | fail "arm")) | fail "region"
  all_goals
    have B4 := B2.trans (b3.mono B2.size)
    have AW := awake_calls _ (hS.below B4)
    go_wp2_with fail
    refine AW.mono ?_
    clear AW
    rintro e w9 ⟨rfl, b9⟩
    go_wp2_with fail
    go_ret
    exact ⟨rfl, B4.trans (b9.mono B4.size)⟩
set_option maxHeartbeats 1600000 in
set_option maxRecDepth 100000 in
theorem purgeForgets_off3 (l : List ActR) (A : Option Addr) (cap : Nat) (ks : List Txt) (B : Option Addr) (cb : Nat) (a b c : Int) (w : World) (hS : Std w) (hl : l.length ≤ 9223372036854775807) (hR : RV w A (l.flatMap ActR.cells)) (hx : ∀ o ∈ l, ActOK w o) (hk : KeysOK w B ks cb) (hg : greatA l = false) (hgk : greatB ks = false) (ha : a < 0) :
    Calls Tryd.prog 6 #[.slice A l.length cap, .slice B ks.length cb, .agg #[.int .i64 a, .int .i64 b, .int .i64 c]] w fun e w' => e = .returned (.bool true) ∧ Below w.heap.size w w' := by
  have B1 : Below w.heap.size w (w.alloc (.cells #[.int .i64 a, .int .i64 b, .int .i64 c] 46)) := (Below.refl _ _).alloc (Nat.le_refl _) _
  have xb := Blk.new w 46 #[.int .i64 a, .int .i64 b, .int .i64 c]
  go_enter Tryd.func6, Tryd.ntmps6
  go_wp2_with fail
  generalize w.alloc (.cells #[.int .i64 a, .int .i64 b, .int .i64 c] 46) = w1 at *
  have hR1 := hR.below B1
  have hx1 : ∀ o ∈ l, ActOK w1 o := fun o ho => (hx o ho).below B1
  have hkl : ks.length ≤ 9223372036854775807 := by have := hk.le; have := hk.cap; omega
  go_wp2_with fail
  refine (run_yes l A cap w1 hl hR1 hx1 hg).mono ?_
  rintro e w2 ⟨y, z, rfl, hB, b2⟩
  have B2 := B1.trans (b2.mono B1.size)
  have xb2 := xb.below b2 xb.lt
  have hxl := xb2.lt
  have bd2 : Below w2.heap.size w2 w2.drew := (Below.refl _ _).drew
  have c0 : w2.cell? ⟨w.heap.size, 0, none⟩ = some (.int .i64 a) := xb2.at_ rfl
  have KK : ∀ wq, Below w2.heap.size w2 wq → wq.cell? ⟨w.heap.size, 0, none⟩ = some (.int .i64 a) := fun wq hb => (hb.cell (p := ⟨w.heap.size, 0, none⟩) hxl).trans c0
  have AW : ∀ wq, Below w2.heap.size w2 wq → Calls Tryd.prog 12 #[] wq fun e w' => e = .returned (.bool true) ∧ Below wq.heap.size wq w' := fun wq hb => awake_calls wq (hS.below (B2.trans (hb.mono B2.size)))
  have GC : ∀ wq, Below w2.heap.size w2 wq → Calls Tryd.prog 21 #[.slice B ks.length cb] wq fun e w' => e = .returned (.bool (greatB ks)) ∧ wq = w' := fun wq hb => rgreat_calls ks B cb wq (hk.below (B2.trans (hb.mono B2.size))).rs hkl hk.small
  rw [hgk] at GC
  have d1 : decide (a < 0) = true := decide_eq_true ha
  clear hR hR1 hx hx1 b2 xb hB
  go_wp2_with fail
  first | (go_region_law (first
    | (go_simp; go_at_call 12; refine (AW _ bd2).mono ?_; rintro e w3 ⟨rfl, b3x⟩; have b3 := bd2.trans (b3x.mono bd2.size); have k3 := KK _ b3; clear b3x)
    | (go_simp; go_at_call 21; refine (GC _ b3).mono ?_; rintro e w3b ⟨rfl, rfl⟩)
    | fail "arm")) | fail "region"
  all_goals
    have B4 := B2.trans (b3.mono B2.size)
    have AW := awake_calls _ (hS.below B4)
    go_wp2_with fail
    refine AW.mono ?_
    clear AW
    rintro e w9 ⟨rfl, b9⟩
    go_wp2_with fail
    go_ret
    exact ⟨rfl, B4.trans (b9.mono B4.size)⟩
set_option maxHeartbeats 1600000 in
set_option maxRecDepth 100000 in
theorem purgeForgets_off4 (l : List ActR) (A : Option Addr) (cap : Nat) (ks : List Txt) (B : Option Addr) (cb : Nat) (a b c : Int) (w : World) (hS : Std w) (hl : l.length ≤ 9223372036854775807) (hR : RV w A (l.flatMap ActR.cells)) (hx : ∀ o ∈ l, ActOK w o) (hk : KeysOK w B ks cb) (hg : greatA l = false) (hgk : greatB ks = false) (ha : ¬ a < 0) (hn : (runP l).now < a) :
    Calls Tryd.prog 6 #[.slice A l.length cap, .slice B ks.length cb, .agg #[.int .i64 a, .int .i64 b, .int .i64 c]] w fun e w' => e = .returned (.bool true) ∧ Below w.heap.size w w' := by
  have B1 : Below w.heap.size w (w.alloc (.cells #[.int .i64 a, .int .i64 b, .int .i64 c] 46)) := (Below.refl _ _).alloc (Nat.le_refl _) _
  have xb := Blk.new w 46 #[.int .i64 a, .int .i64 b, .int .i64 c]
  go_enter Tryd.func6, Tryd.ntmps6
  go_wp2_with fail
  generalize w.alloc (.cells #[.int .i64 a, .int .i64 b, .int .i64 c] 46) = w1 at *
  have hR1 := hR.below B1
  have hx1 : ∀ o ∈ l, ActOK w1 o := fun o ho => (hx o ho).below B1
  have hkl : ks.length ≤ 9223372036854775807 := by have := hk.le; have := hk.cap; omega
  go_wp2_with fail
  refine (run_yes l A cap w1 hl hR1 hx1 hg).mono ?_
  rintro e w2 ⟨y, z, rfl, hB, b2⟩
  have B2 := B1.trans (b2.mono B1.size)
  have xb2 := xb.below b2 xb.lt
  have hxl := xb2.lt
  have bd2 : Below w2.heap.size w2 w2.drew := (Below.refl _ _).drew
  have c0 : w2.cell? ⟨w.heap.size, 0, none⟩ = some (.int .i64 a) := xb2.at_ rfl
  have KK : ∀ wq, Below w2.heap.size w2 wq → wq.cell? ⟨w.heap.size, 0, none⟩ = some (.int .i64 a) := fun wq hb => (hb.cell (p := ⟨w.heap.size, 0, none⟩) hxl).trans c0
  have AW : ∀ wq, Below w2.heap.size w2 wq → Calls Tryd.prog 12 #[] wq fun e w' => e = .returned (.bool true) ∧ Below wq.heap.size wq w' := fun wq hb => awake_calls wq (hS.below (B2.trans (hb.mono B2.size)))
  have GC : ∀ wq, Below w2.heap.size w2 wq → Calls Tryd.prog 21 #[.slice B ks.length cb] wq fun e w' => e = .returned (.bool (greatB ks)) ∧ wq = w' := fun wq hb => rgreat_calls ks B cb wq (hk.below (B2.trans (hb.mono B2.size))).rs hkl hk.small
  rw [hgk] at GC
  have RN : ∀ wq, Below w2.heap.size w2 wq → Calls Tryd.prog 16 #[.pointer (some ⟨z.M, 0, none⟩)] wq fun e w' => e = .returned (.int .i64 (runP l).now) ∧ Below wq.heap.size wq w' := fun wq hb => by
    have := rnow_calls z wq y.foot (hB.below hb).R
    rw [hB.za] at this
    exact this.mono fun e w' ⟨h1, q, h2⟩ => ⟨h1, by rw [h2]; exact drewN_below wq q⟩
  have d1 : decide (a < 0) = false := decide_eq_false (by omega)
  have d2 : decide ((runP l).now < a) = true := decide_eq_true hn
  clear hR hR1 hx hx1 b2 xb hB
  go_wp2_with fail
  first | (go_region_held_law (fun wq => wq.cell? ⟨w.heap.size, 0, none⟩ = some (.int .i64 a)) (first | exact c0 | exact KK _ b4 | exact KK _ b3) (first
    | (go_simp; go_at_call 12; refine (AW _ bd2).mono ?_; rintro e w3 ⟨rfl, b3x⟩; have b3 := bd2.trans (b3x.mono bd2.size); have k3 := KK _ b3; clear b3x)
    | (go_simp; go_at_call 21; refine (GC _ b3).mono ?_; rintro e w3b ⟨rfl, rfl⟩)
    | (go_simp; go_at_call 16; refine (RN _ b3).mono ?_; rintro e w4 ⟨rfl, b4x⟩; have b4 := b3.trans (b4x.mono b3.size); have k4 := KK _ b4; clear b4x)
    | fail "arm")) | fail "region"
  have B4 := B2.trans (b4.mono B2.size)
  have AW := awake_calls _ (hS.below B4)
  go_wp2_with fail
  refine AW.mono ?_
  clear AW
  rintro e w9 ⟨rfl, b9⟩
  go_wp2_with fail
  go_ret
  exact ⟨rfl, B4.trans (b9.mono B4.size)⟩
end Go.Proofs.YtdcjljlppeighaaDoor
