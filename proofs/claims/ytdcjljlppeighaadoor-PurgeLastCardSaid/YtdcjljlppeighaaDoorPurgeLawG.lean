/-
  The walk of PurgeLast.
-/
import Derived.Test.YtdcjljlppeighaaDoorPurgeLawF
namespace Go.Proofs.YtdcjljlppeighaaDoor
open Go.RowKit PurgeP

theorem purgeLast_off1 (l : List ActR) (A : Option Addr) (cap : Nat) (ks : List Txt) (B : Option Addr) (cb : Nat) (a b : Int) (w : World) (hS : Std w) (hl : l.length ≤ 9223372036854775807) (hR : RV w A (l.flatMap ActR.cells)) (hx : ∀ o ∈ l, ActOK w o) (hk : KeysOK w B ks cb) (hg : greatA l = true) :
    Calls Tryd.prog 4 #[.slice A l.length cap, .slice B ks.length cb, .agg #[.int .i64 a, .int .i64 b]] w fun e w' => e = .returned (.bool true) ∧ Below w.heap.size w w' := by
  have B1 : Below w.heap.size w (w.alloc (.cells #[.int .i64 a, .int .i64 b] 39)) := (Below.refl _ _).alloc (Nat.le_refl _) _
  have xb := Blk.new w 39 #[.int .i64 a, .int .i64 b]
  go_enter Tryd.func4, Tryd.ntmps4
  go_wp2_with fail
  generalize w.alloc (.cells #[.int .i64 a, .int .i64 b] 39) = w1 at *
  have hR1 := hR.below B1
  have hx1 : ∀ o ∈ l, ActOK w1 o := fun o ho => (hx o ho).below B1
  have hkl : ks.length ≤ 9223372036854775807 := by have := hk.le; have := hk.cap; omega
  go_wp2_with fail
  refine (run_no l A cap w1 hl hR1 hx1 hg).mono ?_
  rintro e w2 ⟨M, rfl, b2⟩
  have B2 := B1.trans (b2.mono B1.size)
  have AW := awake_calls _ (hS.below B2)
  clear hR hR1 hx hx1 b2
  go_wp2_with fail
  refine AW.mono ?_
  clear AW
  rintro e w3 ⟨rfl, b3⟩
  have B3 := B2.trans (b3.mono B2.size)
  have AW := awake_calls _ (hS.below B3)
  go_wp2_with fail
  refine AW.mono ?_
  clear AW
  rintro e w4 ⟨rfl, b4⟩
  go_wp2_with fail
  go_ret
  exact ⟨rfl, B3.trans (b4.mono B3.size)⟩
theorem purgeLast_off2 (l : List ActR) (A : Option Addr) (cap : Nat) (ks : List Txt) (B : Option Addr) (cb : Nat) (a b : Int) (w : World) (hS : Std w) (hl : l.length ≤ 9223372036854775807) (hR : RV w A (l.flatMap ActR.cells)) (hx : ∀ o ∈ l, ActOK w o) (hk : KeysOK w B ks cb) (hg : greatA l = false) (hgk : greatB ks = true) :
    Calls Tryd.prog 4 #[.slice A l.length cap, .slice B ks.length cb, .agg #[.int .i64 a, .int .i64 b]] w fun e w' => e = .returned (.bool true) ∧ Below w.heap.size w w' := by
  have B1 : Below w.heap.size w (w.alloc (.cells #[.int .i64 a, .int .i64 b] 39)) := (Below.refl _ _).alloc (Nat.le_refl _) _
  have xb := Blk.new w 39 #[.int .i64 a, .int .i64 b]
  go_enter Tryd.func4, Tryd.ntmps4
  go_wp2_with fail
  generalize w.alloc (.cells #[.int .i64 a, .int .i64 b] 39) = w1 at *
  have hR1 := hR.below B1
  have hx1 : ∀ o ∈ l, ActOK w1 o := fun o ho => (hx o ho).below B1
  have hkl : ks.length ≤ 9223372036854775807 := by have := hk.le; have := hk.cap; omega
  go_wp2_with fail
  refine (run_yes l A cap w1 hl hR1 hx1 hg).mono ?_
  rintro e w2 ⟨y, z, rfl, hB, b2⟩
  have B2 := B1.trans (b2.mono B1.size)
  have AW := awake_calls _ (hS.below B2)
  have xb2 := xb.below b2 xb.lt
  clear hR hR1 hx hx1
  go_wp2_with fail
  refine AW.mono ?_
  clear AW
  rintro e w3 ⟨rfl, b3⟩
  have B3 := B2.trans (b3.mono B2.size)
  have hB3 := hB.below b3
  have xb3 := xb2.below b3 xb2.lt
  have GC := rgreat_calls ks B cb w3 (hk.below B3).rs hkl hk.small
  rw [hgk] at GC
  clear hB b2 b3 B2 xb2
  go_wp2_with fail
  refine GC.mono ?_
  clear GC
  rintro e w3b ⟨rfl, rfl⟩
  have AW := awake_calls _ (hS.below B3)
  go_wp2_with fail
  refine AW.mono ?_
  clear AW
  rintro e w4 ⟨rfl, b4⟩
  go_wp2_with fail
  go_ret
  exact ⟨rfl, B3.trans (b4.mono B3.size)⟩
set_option maxHeartbeats 3200000 in
set_option maxRecDepth 100000 in
theorem purgeLast_on (l : List ActR) (A : Option Addr) (cap : Nat) (ks : List Txt) (B : Option Addr) (cb : Nat) (a b : Int) (w : World) (hS : Std w) (hl : l.length ≤ 9223372036854775807) (hR : RV w A (l.flatMap ActR.cells)) (hx : ∀ o ∈ l, ActOK w o) (hk : KeysOK w B ks cb) (hg : greatA l = false) (hgk : greatB ks = false) :
    Calls Tryd.prog 4 #[.slice A l.length cap, .slice B ks.length cb, .agg #[.int .i64 a, .int .i64 b]] w fun e w' => e = .returned (.bool true) ∧ Below w.heap.size w w' := by
  have B1 : Below w.heap.size w (w.alloc (.cells #[.int .i64 a, .int .i64 b] 39)) := (Below.refl _ _).alloc (Nat.le_refl _) _
  have xb := Blk.new w 39 #[.int .i64 a, .int .i64 b]
  go_enter Tryd.func4, Tryd.ntmps4
  go_wp2_with fail
  generalize w.alloc (.cells #[.int .i64 a, .int .i64 b] 39) = w1 at *
  have hR1 := hR.below B1
  have hx1 : ∀ o ∈ l, ActOK w1 o := fun o ho => (hx o ho).below B1
  have hkl : ks.length ≤ 9223372036854775807 := by have := hk.le; have := hk.cap; omega
  go_wp2_with fail
  refine (run_yes l A cap w1 hl hR1 hx1 hg).mono ?_
  rintro e w2 ⟨y, z, rfl, hB, b2⟩
  have B2 := B1.trans (b2.mono B1.size)
  have AW := awake_calls _ (hS.below B2)
  have xb2 := xb.below b2 xb.lt
  clear hR hR1 hx hx1
  go_wp2_with fail
  refine AW.mono ?_
  clear AW
  rintro e w3 ⟨rfl, b3⟩
  have B3 := B2.trans (b3.mono B2.size)
  have hB3 := hB.below b3
  have xb3 := xb2.below b3 xb2.lt
  have GC := rgreat_calls ks B cb w3 (hk.below B3).rs hkl hk.small
  rw [hgk] at GC
  clear hB b2 b3 B2 xb2
  go_wp2_with fail
  refine GC.mono ?_
  clear GC
  rintro e w3b ⟨rfl, rfl⟩
  have hkn : ks.length ≤ 1000 := by have := (great_no hgk).1; omega
  have q1 : ((runP l).last ks a b true == (runP l).last ks a b true) = true := beq_self_eq_true _
  have q2 : ((runP l).last ks a b false == (runP l).last ks a b false) = true := beq_self_eq_true _
  have hR3 := (hk.below B3).rs
  have HRL : ∀ w5, Below w3.heap.size w3 w5 → ∀ hd, Calls Tryd.prog 23 #[.pointer (some ⟨z.M, 0, none⟩), .slice B ks.length cb, .int .i64 a, .int .i64 b, .bool hd] w5 (RetNum ((runP l).last ks a b hd) w5) := fun w5 hb hd => by
    have := rlast_calls z ks ks.length rfl a b hd B cb w5 y.foot (hB3.below hb).R (hR3.below hb) hkl
    rw [hB3.za] at this
    exact this
  have HL : Hid (∀ (w5 : World) (A5 : Option Addr) (c5 : Nat), Below w3.heap.size w3 w5 → RS w5 A5 ks → ∀ hd, Calls Tryd.prog 22 #[.pointer (some ⟨y.D, 0, none⟩), .slice A5 ks.length c5, .int .i64 a, .int .i64 b, .bool hd] w5 (RetNum ((runP l).last ks a b hd) w5)) := fun w5 A5 c5 hb ho hd => by
    have := last_calls y ks ks.length rfl a b hd A5 c5 w5 w1.heap.size (fun k => k = z.M) (hB3.below hb).L ho hkl
    rw [hB3.ya] at this
    exact this
  have hxl := xb3.lt
  have S3 : w3.cell? ⟨w.heap.size, 0, none⟩ = some (.int .i64 a) ∧ w3.cell? ⟨w.heap.size, 1, none⟩ = some (.int .i64 b) := ⟨xb3.at_ rfl, xb3.at_ rfl⟩
  have bd : Below w3.heap.size w3 w3.drew := (Below.refl _ _).drew
  have KK : ∀ wq, Below w3.heap.size w3 wq → wq.cell? ⟨w.heap.size, 0, none⟩ = some (.int .i64 a) ∧ wq.cell? ⟨w.heap.size, 1, none⟩ = some (.int .i64 b) := fun wq hb => ⟨(hb.cell (p := ⟨w.heap.size, 0, none⟩) hxl).trans S3.1, (hb.cell (p := ⟨w.heap.size, 1, none⟩) hxl).trans S3.2⟩
  have bE : ∀ o, Below w3.heap.size w3 (w3.drew.alloc o) := fun o => bd.alloc bd.size o
  clear hB3 xb3
  go_wp2_with fail
  first | (go_region_held_law (fun wq => wq.cell? ⟨w.heap.size, 0, none⟩ = some (.int .i64 a) ∧ wq.cell? ⟨w.heap.size, 1, none⟩ = some (.int .i64 b)) (first | exact S3 | exact KK _ (bE _) | exact KK _ b10 | exact KK _ b9 | exact KK _ b8 | exact KK _ (b7.alloc b7.size _) | exact KK _ b7 | exact KK _ b6 | exact KK _ b5) (first
      | ((have _q := b7); refine step_append_g (A := B) (m := ks.length) (c := cb) (v := .slice (some ⟨w7.heap.size, 0, none⟩) 0 0) (n := 0) (base := w7.heap.size) (xs := []) el_string rfl (.tmp 44) (.tmp 45) rfl rfl (own_empty w7 9 1 (Nat.le_refl _)) rfl (by rw [cS_len]; omega) ((hR3.below b7).alloc _) (cS_one _) (by unfold maxLen; omega) (by omega) (by simp) ?_; intro v8 w8 own8 gr8 hv8; (have own8' : w8.ownsRow w7.heap.size 9 1 v8 ks.length (cS ks) := by simpa using own8); (obtain ⟨A8, c8, hv8f, _, _⟩ := own_form own8'); subst hv8f; have b8 : Below w3.heap.size w3 w8 := Below.grown (b7.alloc b7.size _) gr8 (by have := b7.size; simp; omega) (fun j hj => by have hj : w7.heap.size = j := Option.some.inj hj; have := b7.size; omega); have LC2 := HL.out w8 A8 c8 b8 (RV.of_own own8') false; clear own8 own8' gr8 hv8)
      | (refine step_append_g (A := B) (m := ks.length) (c := cb) (v := .slice (some ⟨w3.heap.size, 0, none⟩) 0 0) (n := 0) (base := w3.heap.size) (xs := []) el_string rfl (.tmp 26) (.tmp 27) rfl rfl (own_empty w3.drew 9 1 (Nat.le_refl _)) rfl (by rw [cS_len]; omega) ((hR3.drew).alloc _) (cS_one _) (by unfold maxLen; omega) (by omega) (by simp) ?_; intro v5 w5 own5 gr5 hv5; (have own6 : w5.ownsRow w3.heap.size 9 1 v5 ks.length (cS ks) := by simpa using own5); (obtain ⟨A5, c5, hv5f, _, _⟩ := own_form own6); subst hv5f; have b5 : Below w3.heap.size w3 w5 := Below.grown (bE _) gr5 (by simp) (fun j hj => by have hj : w3.heap.size = j := Option.some.inj hj; omega); have LC1 := HL.out w5 A5 c5 b5 (RV.of_own own6) true; clear own5 own6 gr5 hv5)
      | (go_simp; go_at_call 22; (have _q := LC2); refine LC2.mono ?_; rintro e w9 ⟨rfl, b9x⟩; have b9 := b8.trans (b9x.mono b8.size); clear LC2 b9x)
      | (go_simp; go_at_call 22; (have _q := LC1); refine LC1.mono ?_; rintro e w6 ⟨rfl, b6x⟩; have b6 := b5.trans (b6x.mono b5.size); clear LC1 b6x)
      | (go_simp; go_at_call 23; (have _q := b9); refine (HRL _ b9 false).mono ?_; rintro e w10 ⟨rfl, b10x⟩; have b10 := b9.trans (b10x.mono b9.size); clear b10x)
      | (go_simp; go_at_call 23; refine (HRL _ b6 true).mono ?_; rintro e w7 ⟨rfl, b7x⟩; have b7 := b6.trans (b7x.mono b6.size); clear b7x)
      | fail "arm")) | fail "region"
  all_goals
    go_wp2_with fail
    go_ret
    exact ⟨rfl, B3.trans (b10.mono B3.size)⟩
theorem purgeLast_walk (l : List ActR) (A : Option Addr) (cap : Nat) (ks : List Txt) (B : Option Addr) (cb : Nat) (a b : Int) (w : World) (hS : Std w) (hl : l.length ≤ 9223372036854775807) (hR : RV w A (l.flatMap ActR.cells)) (hx : ∀ o ∈ l, ActOK w o) (hk : KeysOK w B ks cb) (_ : -9223372036854775808 ≤ a) (_ : a ≤ 9223372036854775807) (_ : -9223372036854775808 ≤ b) (_ : b ≤ 9223372036854775807) :
    Calls Tryd.prog 4 #[.slice A l.length cap, .slice B ks.length cb, .agg #[.int .i64 a, .int .i64 b]] w fun e w' => e = .returned (.bool true) ∧ Below w.heap.size w w' := by
  cases hg : greatA l with
  | true => exact purgeLast_off1 l A cap ks B cb a b w hS hl hR hx hk hg
  | false =>
    cases hgk : greatB ks with
    | true => exact purgeLast_off2 l A cap ks B cb a b w hS hl hR hx hk hg hgk
    | false => exact purgeLast_on l A cap ks B cb a b w hS hl hR hx hk hg hgk
end Go.Proofs.YtdcjljlppeighaaDoor
