/-
  The walk of PurgeLater.
-/
import Derived.Test.YtdcjljlppeighaaDoorPurgeRun
import Derived.Test.YtdcjljlppeighaaDoorPurgePlainB
namespace Go.Proofs.YtdcjljlppeighaaDoor
open Go.RowKit PurgeP

theorem KeysOK.below {w w' : World} {A : Option Addr} {ks : List Txt} {cap : Nat} (h : KeysOK w A ks cap) (b : Below w.heap.size w w') : KeysOK w' A ks cap := ⟨h.le, h.cap, h.rs.below b, h.small⟩
theorem ActOK.below {w w' : World} {a : ActR} (h : ActOK w a) (b : Below w.heap.size w w') : ActOK w' a := ⟨h.k1, h.k2, h.n1, h.n2, h.ks.below b⟩
theorem purgeLater_off1 (l : List ActR) (A : Option Addr) (cap : Nat) (ks : List Txt) (B : Option Addr) (cb : Nat) (a b c : Int) (w : World) (hS : Std w) (hl : l.length ≤ 9223372036854775807) (hR : RV w A (l.flatMap ActR.cells)) (hx : ∀ o ∈ l, ActOK w o) (hk : KeysOK w B ks cb) (hg : greatA l = true) :
    Calls Tryd.prog 10 #[.slice A l.length cap, .slice B ks.length cb, .agg #[.int .i64 a, .int .i64 b, .int .i64 c]] w fun e w' => e = .returned (.bool true) ∧ Below w.heap.size w w' := by
  have B1 : Below w.heap.size w (w.alloc (.cells #[.int .i64 a, .int .i64 b, .int .i64 c] 46)) := (Below.refl _ _).alloc (Nat.le_refl _) _
  have xb := Blk.new w 46 #[.int .i64 a, .int .i64 b, .int .i64 c]
  go_enter Tryd.func10, Tryd.ntmps10
  go_wp2_with fail
  generalize w.alloc (.cells #[.int .i64 a, .int .i64 b, .int .i64 c] 46) = w1 at *
  have hR1 := hR.below B1
  have hx1 : ∀ o ∈ l, ActOK w1 o := fun o ho => (hx o ho).below B1
  have hkl : ks.length ≤ 9223372036854775807 := by have := hk.le; have := hk.cap; omega
  go_wp2_with fail
  refine (run_no l A cap w1 hl hR1 hx1 hg).mono ?_
  rintro e w2 ⟨M, rfl, b2⟩
  have B2 := B1.trans (b2.mono B1.size)
  have AW := awake_calls _ (hS.below B2)
  clear hR hR1 hx hx1 b2
  go_wp2_with fail
  refine AW.mono ?_
  clear AW
  rintro e w3 ⟨rfl, b3⟩
  have B3 := B2.trans (b3.mono B2.size)
  have AW := awake_calls _ (hS.below B3)
  go_wp2_with fail
  refine AW.mono ?_
  clear AW
  rintro e w4 ⟨rfl, b4⟩
  go_wp2_with fail
  go_ret
  exact ⟨rfl, B3.trans (b4.mono B3.size)⟩
theorem purgeLater_off2 (l : List ActR) (A : Option Addr) (cap : Nat) (ks : List Txt) (B : Option Addr) (cb : Nat) (a b c : Int) (w : World) (hS : Std w) (hl : l.length ≤ 9223372036854775807) (hR : RV w A (l.flatMap ActR.cells)) (hx : ∀ o ∈ l, ActOK w o) (hk : KeysOK w B ks cb) (hg : greatA l = false) (hgk : greatB ks = true) :
    Calls Tryd.prog 10 #[.slice A l.length cap, .slice B ks.length cb, .agg #[.int .i64 a, .int .i64 b, .int .i64 c]] w fun e w' => e = .returned (.bool true) ∧ Below w.heap.size w w' := by
  have B1 : Below w.heap.size w (w.alloc (.cells #[.int .i64 a, .int .i64 b, .int .i64 c] 46)) := (Below.refl _ _).alloc (Nat.le_refl _) _
  have xb := Blk.new w 46 #[.int .i64 a, .int .i64 b, .int .i64 c]
  go_enter Tryd.func10, Tryd.ntmps10
  go_wp2_with fail
  generalize w.alloc (.cells #[.int .i64 a, .int .i64 b, .int .i64 c] 46) = w1 at *
  have hR1 := hR.below B1
  have hx1 : ∀ o ∈ l, ActOK w1 o := fun o ho => (hx o ho).below B1
  have hkl : ks.length ≤ 9223372036854775807 := by have := hk.le; have := hk.cap; omega
  go_wp2_with fail
  refine (run_yes l A cap w1 hl hR1 hx1 hg).mono ?_
  rintro e w2 ⟨y, z, rfl, hB, b2⟩
  have B2 := B1.trans (b2.mono B1.size)
  have AW := awake_calls _ (hS.below B2)
  have xb2 := xb.below b2 xb.lt
  clear hR hR1 hx hx1
  go_wp2_with fail
  refine AW.mono ?_
  clear AW
  rintro e w3 ⟨rfl, b3⟩
  have B3 := B2.trans (b3.mono B2.size)
  have hB3 := hB.below b3
  have xb3 := xb2.below b3 xb2.lt
  have GC := rgreat_calls ks B cb w3 (hk.below B3).rs hkl hk.small
  rw [hgk] at GC
  clear hB b2 b3 B2 xb2
  go_wp2_with fail
  refine GC.mono ?_
  clear GC
  rintro e w3b ⟨rfl, rfl⟩
  have AW := awake_calls _ (hS.below B3)
  go_wp2_with fail
  refine AW.mono ?_
  clear AW
  rintro e w4 ⟨rfl, b4⟩
  go_wp2_with fail
  go_ret
  exact ⟨rfl, B3.trans (b4.mono B3.size)⟩
theorem purgeLater_far (l : List ActR) (A : Option Addr) (cap : Nat) (ks : List Txt) (B : Option Addr) (cb : Nat) (a b c : Int) (w : World) (hS : Std w) (hl : l.length ≤ 9223372036854775807) (hR : RV w A (l.flatMap ActR.cells)) (hx : ∀ o ∈ l, ActOK w o) (hk : KeysOK w B ks cb) (hg : greatA l = false) (hgk : greatB ks = false) (hc : ¬ (a ≤ 1125899906842624 ∧ b ≤ 1125899906842624 ∧ max c 0 ≤ 1125899906842624)) :
    Calls Tryd.prog 10 #[.slice A l.length cap, .slice B ks.length cb, .agg #[.int .i64 a, .int .i64 b, .int .i64 c]] w fun e w' => e = .returned (.bool true) ∧ Below w.heap.size w w' := by
  have B1 : Below w.heap.size w (w.alloc (.cells #[.int .i64 a, .int .i64 b, .int .i64 c] 46)) := (Below.refl _ _).alloc (Nat.le_refl _) _
  have xb := Blk.new w 46 #[.int .i64 a, .int .i64 b, .int .i64 c]
  go_enter Tryd.func10, Tryd.ntmps10
  go_wp2_with fail
  generalize w.alloc (.cells #[.int .i64 a, .int .i64 b, .int .i64 c] 46) = w1 at *
  have hR1 := hR.below B1
  have hx1 : ∀ o ∈ l, ActOK w1 o := fun o ho => (hx o ho).below B1
  have hkl : ks.length ≤ 9223372036854775807 := by have := hk.le; have := hk.cap; omega
  go_wp2_with fail
  refine (run_yes l A cap w1 hl hR1 hx1 hg).mono ?_
  rintro e w2 ⟨y, z, rfl, hB, b2⟩
  have B2 := B1.trans (b2.mono B1.size)
  have AW := awake_calls _ (hS.below B2)
  have xb2 := xb.below b2 xb.lt
  clear hR hR1 hx hx1
  go_wp2_with fail
  refine AW.mono ?_
  clear AW
  rintro e w3 ⟨rfl, b3⟩
  have B3 := B2.trans (b3.mono B2.size)
  have hB3 := hB.below b3
  have xb3 := xb2.below b3 xb2.lt
  have GC := rgreat_calls ks B cb w3 (hk.below B3).rs hkl hk.small
  rw [hgk] at GC
  clear hB b2 b3 B2 xb2
  go_wp2_with fail
  refine GC.mono ?_
  clear GC
  rintro e w3b ⟨rfl, rfl⟩
  have c0 : w3.cell? ⟨w.heap.size, 0, none⟩ = some (.int .i64 a) := xb3.at_ rfl
  have c1 : w3.cell? ⟨w.heap.size, 1, none⟩ = some (.int .i64 b) := xb3.at_ rfl
  have c2' : w3.cell? ⟨w.heap.size, 2, none⟩ = some (.int .i64 c) := xb3.at_ rfl
  clear xb3 hB3
  go_wp2_with fail
  go_region
  have B4 : Below w.heap.size w w3.drew := B3.drew
  generalize w3.drew = w4 at *
  clear c0 c1 c2' B3
  obtain ⟨m, hm⟩ : ∃ m, m = max c 0 := ⟨_, rfl⟩
  rw [← hm] at hc ⊢
  clear hm
  by_cases h1 : 1125899906842624 < b
  · have d1 : decide (1125899906842624 < b) = true := decide_eq_true h1
    go_wp2_with fail
    go_ret
    exact ⟨rfl, B4⟩
  · have d1 : decide (1125899906842624 < b) = false := decide_eq_false h1
    by_cases h2 : 1125899906842624 < a
    · have d2 : decide (1125899906842624 < a) = true := decide_eq_true h2
      go_wp2_with fail
      go_ret
      exact ⟨rfl, B4⟩
    · have d2 : decide (1125899906842624 < a) = false := decide_eq_false h2
      have d3 : decide (1125899906842624 < m) = true := decide_eq_true (by omega)
      go_wp2_with fail
      go_ret
      exact ⟨rfl, B4⟩
set_option maxHeartbeats 1600000 in
theorem purgeLater_on (l : List ActR) (A : Option Addr) (cap : Nat) (ks : List Txt) (B : Option Addr) (cb : Nat) (a b c : Int) (w : World) (hS : Std w) (hl : l.length ≤ 9223372036854775807) (hR : RV w A (l.flatMap ActR.cells)) (hx : ∀ o ∈ l, ActOK w o) (hk : KeysOK w B ks cb) (hg : greatA l = false) (hgk : greatB ks = false) (a1 : -9223372036854775808 ≤ a) (a2 : a ≤ 9223372036854775807) (b1 : -9223372036854775808 ≤ b) (b2 : b ≤ 9223372036854775807) (c2 : c ≤ 9223372036854775807) (m : Int) (hm : m = max c 0) (ha : a ≤ 1125899906842624) (hb : b ≤ 1125899906842624) (hmm : m ≤ 1125899906842624) :
    Calls Tryd.prog 10 #[.slice A l.length cap, .slice B ks.length cb, .agg #[.int .i64 a, .int .i64 b, .int .i64 c]] w fun e w' => e = .returned (.bool true) ∧ Below w.heap.size w w' := by
  have B1 : Below w.heap.size w (w.alloc (.cells #[.int .i64 a, .int .i64 b, .int .i64 c] 46)) := (Below.refl _ _).alloc (Nat.le_refl _) _
  have xb := Blk.new w 46 #[.int .i64 a, .int .i64 b, .int .i64 c]
  go_enter Tryd.func10, Tryd.ntmps10
  go_wp2_with fail
  generalize w.alloc (.cells #[.int .i64 a, .int .i64 b, .int .i64 c] 46) = w1 at *
  have hR1 := hR.below B1
  have hx1 : ∀ o ∈ l, ActOK w1 o := fun o ho => (hx o ho).below B1
  have hkl : ks.length ≤ 9223372036854775807 := by have := hk.le; have := hk.cap; omega
  go_wp2_with fail
  refine (run_yes l A cap w1 hl hR1 hx1 hg).mono ?_
  rintro e w2 ⟨y, z, rfl, hB, b2⟩
  have B2 := B1.trans (b2.mono B1.size)
  have AW := awake_calls _ (hS.below B2)
  have xb2 := xb.below b2 xb.lt
  clear hR hR1 hx hx1
  go_wp2_with fail
  refine AW.mono ?_
  clear AW
  rintro e w3 ⟨rfl, b3⟩
  have B3 := B2.trans (b3.mono B2.size)
  have hB3 := hB.below b3
  have xb3 := xb2.below b3 xb2.lt
  have GC := rgreat_calls ks B cb w3 (hk.below B3).rs hkl hk.small
  rw [hgk] at GC
  clear hB b2 b3 B2 xb2
  go_wp2_with fail
  refine GC.mono ?_
  clear GC
  rintro e w3b ⟨rfl, rfl⟩
  have c0 : w3.cell? ⟨w.heap.size, 0, none⟩ = some (.int .i64 a) := xb3.at_ rfl
  have c1 : w3.cell? ⟨w.heap.size, 1, none⟩ = some (.int .i64 b) := xb3.at_ rfl
  have c2' : w3.cell? ⟨w.heap.size, 2, none⟩ = some (.int .i64 c) := xb3.at_ rfl
  clear xb3
  go_wp2_with fail
  go_region
  have bq : Below w3.heap.size w3 w3.drew := (Below.refl _ _).drew
  have B4 := B3.trans (bq.mono B3.size)
  have hB4 := hB3.below bq
  generalize w3.drew = w4 at *
  have hPok : (runP l).OK := by have := hB3.L.ok; rwa [hB3.ya] at this
  clear bq hB3 B3 c0 c1 c2'
  rw [← hm]
  have m0 : 0 ≤ m := by omega
  clear hm
  have d1 : decide (1125899906842624 < b) = false := decide_eq_false (by omega)
  have d2 : decide (1125899906842624 < a) = false := decide_eq_false (by omega)
  have d3 : decide (1125899906842624 < m) = false := decide_eq_false (by omega)
  have s1 : IntKind.i64.wrap (b + m) = b + m := by rw [IntKind.wrap_i64]; omega
  have s2 : IntKind.i64.wrap (a + m) = a + m := by rw [IntKind.wrap_i64]; omega
  have g1 : decide ((runP l).last ks a b true ≤ (runP l).last ks a (b + m) true) = true := decide_eq_true (later_up hPok ks true (by omega))
  have g3 : decide ((runP l).last ks a b true ≤ (runP l).last ks a b false) = true := decide_eq_true (soft_more hPok ks a b)
  have g2 := later_down hPok ks true (b := a) (b' := a + m) (u := b) (by omega)
  clear hPok
  have LC := last_calls y ks ks.length rfl (a) (b) true B cb w4 w1.heap.size (fun k => k = z.M) hB4.L (hk.below B4).rs hkl
  rw [hB4.ya] at LC
  go_wp2_with fail
  refine LC.mono ?_
  clear LC
  rintro e w5 ⟨rfl, b5⟩
  have B5 := B4.trans (b5.mono B4.size)
  have hB5 := hB4.below b5
  clear hB4 b5
  have LC := last_calls y ks ks.length rfl (a) (b + m) true B cb w5 w1.heap.size (fun k => k = z.M) hB5.L (hk.below B5).rs hkl
  rw [hB5.ya] at LC
  go_wp2_with fail
  refine LC.mono ?_
  clear LC
  rintro e w6 ⟨rfl, b6⟩
  have B6 := B5.trans (b6.mono B5.size)
  have hB6 := hB5.below b6
  clear hB5 b6
  have LC := last_calls y ks ks.length rfl (a + m) (b) true B cb w6 w1.heap.size (fun k => k = z.M) hB6.L (hk.below B6).rs hkl
  rw [hB6.ya] at LC
  go_wp2_with fail
  refine LC.mono ?_
  clear LC
  rintro e w7 ⟨rfl, b7⟩
  have B7 := B6.trans (b7.mono B6.size)
  have hB7 := hB6.below b7
  clear hB6 b7
  by_cases h0 : (runP l).last ks (a + m) b true = 0
  · have e0 : ((runP l).last ks (a + m) b true == 0) = true := beq_iff_eq.2 h0
    clear h0 g2
    have LC := last_calls y ks ks.length rfl (a) (b) false B cb w7 w1.heap.size (fun k => k = z.M) hB7.L (hk.below B7).rs hkl
    rw [hB7.ya] at LC
    go_wp2_with fail
    refine LC.mono ?_
    clear LC
    rintro e w8 ⟨rfl, b8⟩
    have B8 := B7.trans (b8.mono B7.size)
    have hB8 := hB7.below b8
    clear hB7 b8
    go_wp2_with fail
    go_ret
    exact ⟨rfl, B8⟩
  · have e0 : ((runP l).last ks (a + m) b true == 0) = false := beq_eq_false_iff_ne.2 h0
    have e1 : ((runP l).last ks (a + m) b true == (runP l).last ks a b true) = true := beq_iff_eq.2 (g2.resolve_left h0)
    clear h0 g2
    have LC := last_calls y ks ks.length rfl (a + m) (b) true B cb w7 w1.heap.size (fun k => k = z.M) hB7.L (hk.below B7).rs hkl
    rw [hB7.ya] at LC
    go_wp2_with fail
    refine LC.mono ?_
    clear LC
    rintro e w8 ⟨rfl, b8⟩
    have B8 := B7.trans (b8.mono B7.size)
    have hB8 := hB7.below b8
    clear hB7 b8
    have LC := last_calls y ks ks.length rfl (a) (b) false B cb w8 w1.heap.size (fun k => k = z.M) hB8.L (hk.below B8).rs hkl
    rw [hB8.ya] at LC
    go_wp2_with fail
    refine LC.mono ?_
    clear LC
    rintro e w9 ⟨rfl, b9⟩
    have B9 := B8.trans (b9.mono B8.size)
    have hB9 := hB8.below b9
    clear hB8 b9
    go_wp2_with fail
    go_ret
    exact ⟨rfl, B9⟩
theorem purgeLater_walk (l : List ActR) (A : Option Addr) (cap : Nat) (ks : List Txt) (B : Option Addr) (cb : Nat) (a b c : Int) (w : World) (hS : Std w) (hl : l.length ≤ 9223372036854775807) (hR : RV w A (l.flatMap ActR.cells)) (hx : ∀ o ∈ l, ActOK w o) (hk : KeysOK w B ks cb) (ha1 : -9223372036854775808 ≤ a) (ha2 : a ≤ 9223372036854775807) (hb1 : -9223372036854775808 ≤ b) (hb2 : b ≤ 9223372036854775807) (_ : -9223372036854775808 ≤ c) (hc2 : c ≤ 9223372036854775807) :
    Calls Tryd.prog 10 #[.slice A l.length cap, .slice B ks.length cb, .agg #[.int .i64 a, .int .i64 b, .int .i64 c]] w fun e w' => e = .returned (.bool true) ∧ Below w.heap.size w w' := by
  cases hg : greatA l with
  | true => exact purgeLater_off1 l A cap ks B cb a b c w hS hl hR hx hk hg
  | false =>
    cases hgk : greatB ks with
    | true => exact purgeLater_off2 l A cap ks B cb a b c w hS hl hR hx hk hg hgk
    | false => exact if hc : a ≤ 1125899906842624 ∧ b ≤ 1125899906842624 ∧ max c 0 ≤ 1125899906842624 then purgeLater_on l A cap ks B cb a b c w hS hl hR hx hk hg hgk ha1 ha2 hb1 hb2 hc2 _ rfl hc.1 hc.2.1 hc.2.2 else purgeLater_far l A cap ks B cb a b c w hS hl hR hx hk hg hgk hc
end Go.Proofs.YtdcjljlppeighaaDoor
