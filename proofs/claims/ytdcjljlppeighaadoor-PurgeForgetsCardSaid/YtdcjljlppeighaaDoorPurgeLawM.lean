/-
  The walk of PurgeForgets, asked ahead of the floor.
-/
import Derived.Test.YtdcjljlppeighaaDoorPurgeLawE
namespace Go.Proofs.YtdcjljlppeighaaDoor
open Go.RowKit PurgeP

set_option maxHeartbeats 3200000 in
set_option maxRecDepth 100000 in
theorem purgeForgets_near (l : List ActR) (A : Option Addr) (cap : Nat) (ks : List Txt) (B : Option Addr) (cb : Nat) (a b c : Int) (w : World) (hS : Std w) (hl : l.length ≤ 9223372036854775807) (hR : RV w A (l.flatMap ActR.cells)) (hx : ∀ o ∈ l, ActOK w o) (hk : KeysOK w B ks cb) (hg : greatA l = false) (hgk : greatB ks = false) (ha : ¬ a < 0) (hn : ¬ (runP l).now < a) (hf : ¬ max (runP l).floor a ≤ b) :
    Calls Tryd.prog 6 #[.slice A l.length cap, .slice B ks.length cb, .agg #[.int .i64 a, .int .i64 b, .int .i64 c]] w fun e w' => e = .returned (.bool true) ∧ Below w.heap.size w w' := by
  have B1 : Below w.heap.size w (w.alloc (.cells #[.int .i64 a, .int .i64 b, .int .i64 c] 46)) := (Below.refl _ _).alloc (Nat.le_refl _) _
  have xb := Blk.new w 46 #[.int .i64 a, .int .i64 b, .int .i64 c]
  go_enter Tryd.func6, Tryd.ntmps6
  go_wp2_with fail
  generalize w.alloc (.cells #[.int .i64 a, .int .i64 b, .int .i64 c] 46) = w1 at *
  have hR1 := hR.below B1
  have hx1 : ∀ o ∈ l, ActOK w1 o := fun o ho => (hx o ho).below B1
  have hkl : ks.length ≤ 9223372036854775807 := by have := hk.le; have := hk.cap; omega
  go_wp2_with fail
  refine (run_yes l A cap w1 hl hR1 hx1 hg).mono ?_
  rintro e w2 ⟨y, z, rfl, hB, b2⟩
  have B2 := B1.trans (b2.mono B1.size)
  have xb2 := xb.below b2 xb.lt
  have hxl := xb2.lt
  have bd2 : Below w2.heap.size w2 w2.drew := (Below.refl _ _).drew
  have c0 : w2.cell? ⟨w.heap.size, 0, none⟩ = some (.int .i64 a) := xb2.at_ rfl
  have KK : ∀ wq, Below w2.heap.size w2 wq → wq.cell? ⟨w.heap.size, 0, none⟩ = some (.int .i64 a) := fun wq hb => (hb.cell (p := ⟨w.heap.size, 0, none⟩) hxl).trans c0
  have AW : ∀ wq, Below w2.heap.size w2 wq → Calls Tryd.prog 12 #[] wq fun e w' => e = .returned (.bool true) ∧ Below wq.heap.size wq w' := fun wq hb => awake_calls wq (hS.below (B2.trans (hb.mono B2.size)))
  have GC : ∀ wq, Below w2.heap.size w2 wq → Calls Tryd.prog 21 #[.slice B ks.length cb] wq fun e w' => e = .returned (.bool (greatB ks)) ∧ wq = w' := fun wq hb => rgreat_calls ks B cb wq (hk.below (B2.trans (hb.mono B2.size))).rs hkl hk.small
  rw [hgk] at GC
  have RN : ∀ wq, Below w2.heap.size w2 wq → Calls Tryd.prog 16 #[.pointer (some ⟨z.M, 0, none⟩)] wq fun e w' => e = .returned (.int .i64 (runP l).now) ∧ Below wq.heap.size wq w' := fun wq hb => by
    have := rnow_calls z wq y.foot (hB.below hb).R
    rw [hB.za] at this
    exact this.mono fun e w' ⟨h1, q, h2⟩ => ⟨h1, by rw [h2]; exact drewN_below wq q⟩
  have d1 : decide (a < 0) = false := decide_eq_false (by omega)
  have d2 : decide ((runP l).now < a) = false := decide_eq_false (by omega)
  have hPok : (runP l).OK := by have := hB.L.ok; rwa [hB.ya] at this
  have hs2 := B1.size
  have HXB := Lib.hid xb.lt
  clear hR hR1 hx hx1 xb
  go_wp2_with fail
  first | (go_region_held_law (fun wq => wq.cell? ⟨w.heap.size, 0, none⟩ = some (.int .i64 a)) (first | exact c0 | exact KK _ b4 | exact KK _ b3) (first
    | (go_simp; go_at_call 12; refine (AW _ bd2).mono ?_; rintro e w3 ⟨rfl, b3x⟩; have b3 := bd2.trans (b3x.mono bd2.size); have k3 := KK _ b3; clear b3x)
    | (go_simp; go_at_call 21; refine (GC _ b3).mono ?_; rintro e w3b ⟨rfl, rfl⟩)
    | (go_simp; go_at_call 16; refine (RN _ b3).mono ?_; rintro e w4 ⟨rfl, b4x⟩; have b4 := b3.trans (b4x.mono b3.size); have k4 := KK _ b4; clear b4x)
    | fail "arm")) | fail "region"
  have B4 := B2.trans (b4.mono B2.size)
  have hB4 := hB.below b4
  have xb4 := xb2.below b4 xb2.lt
  clear hB xb2 b3 b4 c0 KK bd2 AW GC RN B2 d1 d2
  have c1 : w4.cell? ⟨w.heap.size, 1, none⟩ = some (.int .i64 b) := xb4.at_ rfl
  have c2 : w4.cell? ⟨w.heap.size, 2, none⟩ = some (.int .i64 c) := xb4.at_ rfl
  go_wp2_with fail
  go_region
  have bq : Below w4.heap.size w4 w4.drew := (Below.refl _ _).drew
  have B5 := B4.trans (bq.mono B4.size)
  have hB5 := hB4.below bq
  have xb5 := xb4.below bq xb4.lt
  generalize w4.drew = w5 at *
  clear bq hB4 xb4 c1 c2 B4
  have hk5 := (hk.below B5).rs
  have LC := last_calls y ks ks.length rfl b c true B cb w5 w1.heap.size (fun k => k = z.M) hB5.L hk5 hkl
  rw [hB5.ya] at LC
  go_wp2_with fail
  refine LC.mono ?_
  clear LC
  rintro e w6 ⟨rfl, b6⟩
  have B6 := B5.trans (b6.mono B5.size)
  have hB6 := hB5.below b6
  have xb6 := xb5.below b6 xb5.lt
  have LC := last_calls y ks ks.length rfl b c false B cb w6 w1.heap.size (fun k => k = z.M) hB6.L (hk.below B6).rs hkl
  rw [hB6.ya] at LC
  clear hB5 xb5 b6 hk5 B5
  go_wp2_with fail
  refine LC.mono ?_
  clear LC
  rintro e w7 ⟨rfl, b7⟩
  have B7 := B6.trans (b7.mono B6.size)
  have hB7 := hB6.below b7
  have xb7 := xb6.below b7 xb6.lt
  have AC := any_calls y b c w7 w1.heap.size (fun k => k = z.M) hB7.L
  rw [hB7.ya] at AC
  clear hB6 xb6 b7 B6
  go_wp2_with fail
  refine AC.mono ?_
  clear AC
  rintro e w8 ⟨rfl, b8⟩
  have B8 := B7.trans (b8.mono B7.size)
  have hB8 := hB7.below b8
  have xb8 := xb7.below b8 xb7.lt
  clear hB7 xb7 b8 B7
  have hw1 : w.heap.size < w1.heap.size := HXB.out
  have FC : ∀ wq, Below w8.heap.size w8 wq → Calls Tryd.prog 26 #[.pointer (some ⟨y.D, 0, none⟩), .int .i64 a] wq fun e w9 => e = .returned (.int .i64 0) ∧ Forgot w w9 y.D z.M w.heap.size (runP l) ((runP l).forS a) ks B cb b c #[.int .i64 a, .int .i64 b, .int .i64 c] := fun wq hb =>
    forgot_calls (hB8.below hb) (by omega) (B8.trans (hb.mono B8.size)) hw1 (xb8.below hb xb8.lt) hk.rs hkl a b c (by omega) (by omega)
  obtain ⟨f0, f1, f2⟩ := for_floor hPok (n := a) (by omega) (by omega)
  have S8 : w8.cell? ⟨w.heap.size, 0, none⟩ = some (.int .i64 a) ∧ w8.cell? ⟨z.M, 1, none⟩ = some (.int .i64 (runP l).floor) := ⟨xb8.at_ rfl, by rw [← show z.floor = (runP l).floor from congrArg PLog.floor hB8.za]; exact hB8.R.bk.at_ rfl⟩
  have bd8 : Below w8.heap.size w8 w8.drew := (Below.refl _ _).drew
  have m1 : (max (runP l).floor a != max (runP l).floor a) = false := by simp
  have m2 : ((runP l).now != (runP l).now) = false := by simp
  have hQok := hPok.forget a
  clear hB8 xb8 B8
  go_wp2_with fail
  first | (go_region_held_law (fun wq => wq.cell? ⟨w.heap.size, 0, none⟩ = some (.int .i64 a) ∧ wq.cell? ⟨z.M, 1, none⟩ = some (.int .i64 (runP l).floor)) (first | exact S8 | exact KK9 _ b11 | exact KK9 _ b10 | exact KK9 _ (Below.refl _ _)) (first
    | (go_simp; go_at_call 26; refine (FC _ bd8).mono ?_; rintro e w9 ⟨rfl, hF⟩; have KK9 : ∀ wq, Below w9.heap.size w9 wq → wq.cell? ⟨w.heap.size, 0, none⟩ = some (.int .i64 a) ∧ wq.cell? ⟨z.M, 1, none⟩ = some (.int .i64 (runP l).floor) := fun wq hb => ⟨(hF.bb.below hb hF.bb.lt).at_ rfl, (hb.cell (p := ⟨z.M, 1, none⟩) hF.Ml).trans hF.zf⟩; have FL := hF.fl _ (Below.refl _ _); rw [f1] at FL)
    | (go_simp; go_at_call 17; refine FL.mono ?_; rintro e w9b ⟨rfl, rfl⟩)
    | (go_simp; go_at_call 15; refine (hF.nw _ (Below.refl _ _)).mono ?_; rintro e w10 ⟨rfl, b10⟩)
    | (go_simp; go_at_call 16; refine (hF.rn _ b10).mono ?_; rintro e w11 ⟨rfl, b11x⟩; have b11 := b10.trans (b11x.mono b10.size); clear b11x)
    | fail "arm")) | fail "region"
  all_goals
    have FL := hF.fl _ b11
    rw [f1] at FL
    clear KK9 S8 bd8 FC m1 m2
    go_wp2_with fail
    refine FL.mono ?_
    clear FL
    rintro e w12 ⟨rfl, rfl⟩
    have d3 : decide (max (runP l).floor a ≤ b) = false := decide_eq_false (by first | exact hf | exact Int.not_le.2 hf)
    by_cases h1 : b < c
    · have d4 : decide (b < c) = true := decide_eq_true h1
      by_cases h2 : 1 ≤ c
      · have d5 : decide (1 ≤ c) = true := decide_eq_true h2
        have FL := hF.fl _ b11
        rw [f1] at FL
        go_wp2_with fail
        refine FL.mono ?_
        rintro e w13 ⟨rfl, rfl⟩
        by_cases h3 : 1 ≤ max (runP l).floor a
        · have d6 : decide (1 ≤ max (runP l).floor a) = true := decide_eq_true h3
          have LA := fun hd => (low_all hQok (b := b) (u := c) (by rw [f1]; omega) h1 h2 (by rw [f1]; exact h3) ks hd)
          rw [f1] at LA
          have g1 : decide (min c (max (runP l).floor a) ≤ ((runP l).forS a).last ks b c true) = true := decide_eq_true (LA true).1
          have g2 : decide (min c (max (runP l).floor a) ≤ ((runP l).forS a).last ks b c false) = true := decide_eq_true (LA false).1
          have g3 := (LA true).2
          go_wp2_with fail
          refine FL.mono ?_
          clear FL
          rintro e w13b ⟨rfl, rfl⟩
          have LC := hF.la _ b11 true
          go_wp2_with fail
          refine LC.mono ?_
          clear LC
          rintro e w14 ⟨rfl, b14x⟩
          have b14 := b11.trans (b14x.mono b11.size)
          have LC := hF.la _ b14 false
          go_wp2_with fail
          refine LC.mono ?_
          clear LC
          rintro e w15 ⟨rfl, b15x⟩
          have b15 := b14.trans (b15x.mono b14.size)
          have LC := hF.an _ b15
          rw [g3] at LC
          go_wp2_with fail
          refine LC.mono ?_
          clear LC
          rintro e w16 ⟨rfl, b16x⟩
          have b16 := b15.trans (b16x.mono b15.size)
          go_wp2_with fail
          go_ret
          exact ⟨rfl, hF.bel.trans (b16.mono hF.bel.size)⟩
        · have d6 : decide (1 ≤ max (runP l).floor a) = false := decide_eq_false h3
          go_wp2_with fail
          go_ret
          exact ⟨rfl, hF.bel.trans (b11.mono hF.bel.size)⟩
      · have d5 : decide (1 ≤ c) = false := decide_eq_false h2
        go_wp2_with fail
        go_ret
        exact ⟨rfl, hF.bel.trans (b11.mono hF.bel.size)⟩
    · have d4 : decide (b < c) = false := decide_eq_false h1
      go_wp2_with fail
      go_ret
      exact ⟨rfl, hF.bel.trans (b11.mono hF.bel.size)⟩
end Go.Proofs.YtdcjljlppeighaaDoor
