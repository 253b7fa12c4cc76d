/-
  The walk of PurgeAny.
-/
import Derived.Test.YtdcjljlppeighaaDoorPurgeLawD
import Derived.Deep.RegionHeldLaw
namespace Go.Proofs.YtdcjljlppeighaaDoor
open Go.RowKit PurgeP

/-- .. and where the append is guarded. -/
theorem step_append_g {P : Program} {w : World} {base : Nat} {t e : TypeId} {z : Value} {size bytes n m c : Nat} {v : Value} {xs news : List Value} {A : Option Addr} {ops : Array Oper} {o : Oper} {a : Act} {K : Act → World → Prop} {Q : Exit → Act → World → Prop} {E : Prop}
    (El0 : El P t e z size bytes) (hw : Region.wanted o (yielded ops a.tmps) = true) (s x : Operand)
    (ho : o.op = .call { callee := .builtin .append, args := #[s, x], argTypes := #[t, t] })
    (hs : a.eval s = v) (hown : w.ownsRow base e size v n xs)
    (hx : a.eval x = .slice A m c) (hl : news.length = m * size) (hr : RV w A news) (h1 : ∀ u ∈ news, u.oneCell' = true)
    (h63 : n + m ≤ maxLen) (hbytes : (n + m) * bytes ≤ 140737488355328) (hbase : base ≤ w.heap.size)
    (hK : ∀ v' w', w'.ownsRow base e size v' (n + m) (xs ++ news) → w.grownBy w' v.ownBlock → (v'.ownBlock = v.ownBlock ∨ v'.ownBlock = some w.heap.size) → K (a.put o.dst v') w') :
    if Region.wanted o (yielded ops a.tmps) = true then Oper.wp P o a w K Q else E := by
  rw [if_pos hw]
  obtain ⟨v', w', hrun, h2, h3, h4⟩ := run_append_rv (P := P) (w := w) (ty := o.type) (c := c) El0 hown hl hr h1 h63 hbytes hbase
  unfold Oper.wp execOp
  simp only [ho, resolve, invoke, builtin, Sem.run_bind, Sem.run_pure, Result.andThen_ok, List.map_toArray, List.map_cons, List.map_nil, hs, hx, hrun]
  exact hK _ _ h2 h3 h4
theorem purgeAny_off1 (l : List ActR) (A : Option Addr) (cap : Nat) (ks : List Txt) (B : Option Addr) (cb : Nat) (a b : Int) (w : World) (hS : Std w) (hl : l.length ≤ 9223372036854775807) (hR : RV w A (l.flatMap ActR.cells)) (hx : ∀ o ∈ l, ActOK w o) (hk : KeysOK w B ks cb) (hg : greatA l = true) :
    Calls Tryd.prog 5 #[.slice A l.length cap, .slice B ks.length cb, .agg #[.int .i64 a, .int .i64 b]] w fun e w' => e = .returned (.bool true) ∧ Below w.heap.size w w' := by
  have B1 : Below w.heap.size w (w.alloc (.cells #[.int .i64 a, .int .i64 b] 39)) := (Below.refl _ _).alloc (Nat.le_refl _) _
  have xb := Blk.new w 39 #[.int .i64 a, .int .i64 b]
  go_enter Tryd.func5, Tryd.ntmps5
  go_wp2_with fail
  generalize w.alloc (.cells #[.int .i64 a, .int .i64 b] 39) = w1 at *
  have hR1 := hR.below B1
  have hx1 : ∀ o ∈ l, ActOK w1 o := fun o ho => (hx o ho).below B1
  have hkl : ks.length ≤ 9223372036854775807 := by have := hk.le; have := hk.cap; omega
  go_wp2_with fail
  refine (run_no l A cap w1 hl hR1 hx1 hg).mono ?_
  rintro e w2 ⟨M, rfl, b2⟩
  have B2 := B1.trans (b2.mono B1.size)
  have AW := awake_calls _ (hS.below B2)
  clear hR hR1 hx hx1 b2
  go_wp2_with fail
  refine AW.mono ?_
  clear AW
  rintro e w3 ⟨rfl, b3⟩
  have B3 := B2.trans (b3.mono B2.size)
  have AW := awake_calls _ (hS.below B3)
  go_wp2_with fail
  refine AW.mono ?_
  clear AW
  rintro e w4 ⟨rfl, b4⟩
  go_wp2_with fail
  go_ret
  exact ⟨rfl, B3.trans (b4.mono B3.size)⟩
theorem purgeAny_off2 (l : List ActR) (A : Option Addr) (cap : Nat) (ks : List Txt) (B : Option Addr) (cb : Nat) (a b : Int) (w : World) (hS : Std w) (hl : l.length ≤ 9223372036854775807) (hR : RV w A (l.flatMap ActR.cells)) (hx : ∀ o ∈ l, ActOK w o) (hk : KeysOK w B ks cb) (hg : greatA l = false) (hgk : greatB ks = true) :
    Calls Tryd.prog 5 #[.slice A l.length cap, .slice B ks.length cb, .agg #[.int .i64 a, .int .i64 b]] w fun e w' => e = .returned (.bool true) ∧ Below w.heap.size w w' := by
  have B1 : Below w.heap.size w (w.alloc (.cells #[.int .i64 a, .int .i64 b] 39)) := (Below.refl _ _).alloc (Nat.le_refl _) _
  have xb := Blk.new w 39 #[.int .i64 a, .int .i64 b]
  go_enter Tryd.func5, Tryd.ntmps5
  go_wp2_with fail
  generalize w.alloc (.cells #[.int .i64 a, .int .i64 b] 39) = w1 at *
  have hR1 := hR.below B1
  have hx1 : ∀ o ∈ l, ActOK w1 o := fun o ho => (hx o ho).below B1
  have hkl : ks.length ≤ 9223372036854775807 := by have := hk.le; have := hk.cap; omega
  go_wp2_with fail
  refine (run_yes l A cap w1 hl hR1 hx1 hg).mono ?_
  rintro e w2 ⟨y, z, rfl, hB, b2⟩
  have B2 := B1.trans (b2.mono B1.size)
  have AW := awake_calls _ (hS.below B2)
  have xb2 := xb.below b2 xb.lt
  clear hR hR1 hx hx1
  go_wp2_with fail
  refine AW.mono ?_
  clear AW
  rintro e w3 ⟨rfl, b3⟩
  have B3 := B2.trans (b3.mono B2.size)
  have hB3 := hB.below b3
  have xb3 := xb2.below b3 xb2.lt
  have GC := rgreat_calls ks B cb w3 (hk.below B3).rs hkl hk.small
  rw [hgk] at GC
  clear hB b2 b3 B2 xb2
  go_wp2_with fail
  refine GC.mono ?_
  clear GC
  rintro e w3b ⟨rfl, rfl⟩
  have AW := awake_calls _ (hS.below B3)
  go_wp2_with fail
  refine AW.mono ?_
  clear AW
  rintro e w4 ⟨rfl, b4⟩
  go_wp2_with fail
  go_ret
  exact ⟨rfl, B3.trans (b4.mono B3.size)⟩
set_option maxHeartbeats 1600000 in
set_option maxRecDepth 100000 in
theorem purgeAny_on (l : List ActR) (A : Option Addr) (cap : Nat) (ks : List Txt) (B : Option Addr) (cb : Nat) (a b : Int) (w : World) (hS : Std w) (hl : l.length ≤ 9223372036854775807) (hR : RV w A (l.flatMap ActR.cells)) (hx : ∀ o ∈ l, ActOK w o) (hk : KeysOK w B ks cb) (hg : greatA l = false) (hgk : greatB ks = false) :
    Calls Tryd.prog 5 #[.slice A l.length cap, .slice B ks.length cb, .agg #[.int .i64 a, .int .i64 b]] w fun e w' => e = .returned (.bool true) ∧ Below w.heap.size w w' := by
  have B1 : Below w.heap.size w (w.alloc (.cells #[.int .i64 a, .int .i64 b] 39)) := (Below.refl _ _).alloc (Nat.le_refl _) _
  have xb := Blk.new w 39 #[.int .i64 a, .int .i64 b]
  go_enter Tryd.func5, Tryd.ntmps5
  go_wp2_with fail
  generalize w.alloc (.cells #[.int .i64 a, .int .i64 b] 39) = w1 at *
  have hR1 := hR.below B1
  have hx1 : ∀ o ∈ l, ActOK w1 o := fun o ho => (hx o ho).below B1
  have hkl : ks.length ≤ 9223372036854775807 := by have := hk.le; have := hk.cap; omega
  go_wp2_with fail
  refine (run_yes l A cap w1 hl hR1 hx1 hg).mono ?_
  rintro e w2 ⟨y, z, rfl, hB, b2⟩
  have B2 := B1.trans (b2.mono B1.size)
  have AW := awake_calls _ (hS.below B2)
  have xb2 := xb.below b2 xb.lt
  clear hR hR1 hx hx1
  go_wp2_with fail
  refine AW.mono ?_
  clear AW
  rintro e w3 ⟨rfl, b3⟩
  have B3 := B2.trans (b3.mono B2.size)
  have hB3 := hB.below b3
  have xb3 := xb2.below b3 xb2.lt
  have GC := rgreat_calls ks B cb w3 (hk.below B3).rs hkl hk.small
  rw [hgk] at GC
  clear hB b2 b3 B2 xb2
  go_wp2_with fail
  refine GC.mono ?_
  clear GC
  rintro e w3b ⟨rfl, rfl⟩
  have c0 : w3.cell? ⟨w.heap.size, 0, none⟩ = some (.int .i64 a) := xb3.at_ rfl
  have c1 : w3.cell? ⟨w.heap.size, 1, none⟩ = some (.int .i64 b) := xb3.at_ rfl
  have hPok : (runP l).OK := by have := hB3.L.ok; rwa [hB3.ya] at this
  have hkn : ks.length ≤ 1000 := by have := (great_no hgk).1; omega
  have ha := hard_any hPok ks a b
  have AC := any_calls y a b w3 w1.heap.size (fun k => k = z.M) hB3.L
  rw [hB3.ya] at AC
  go_wp2_with fail
  refine AC.mono ?_
  clear AC
  rintro e w4 ⟨rfl, b4⟩
  have B4 := B3.trans (b4.mono B3.size)
  have hB4 := hB3.below b4
  have xb4 := xb3.below b4 xb3.lt
  have q1 : ((runP l).any a b == (runP l).any a b) = true := beq_self_eq_true _
  have RC : ∀ w5, Below w4.heap.size w4 w5 → Calls Tryd.prog 25 #[.pointer (some ⟨z.M, 0, none⟩), .int .i64 a, .int .i64 b] w5 fun e w' => e = .returned (.bool ((runP l).any a b)) ∧ w5 = w' := fun w5 hb => by
    have := rany_calls z a b w5 y.foot (hB4.below hb).R
    rw [hB4.za] at this
    exact this
  have HL : Hid (∀ (w5 : World) (A5 : Option Addr) (c5 : Nat), Below w4.heap.size w4 w5 → w5.ownsRow w4.heap.size 9 1 (.slice A5 ks.length c5) ks.length (cS ks) → Calls Tryd.prog 22 #[.pointer (some ⟨y.D, 0, none⟩), .slice A5 ks.length c5, .int .i64 a, .int .i64 b, .bool true] w5 (RetNum ((runP l).last ks a b true) w5)) := fun w5 A5 c5 hb ho => by
    have := last_calls y ks ks.length rfl a b true A5 c5 w5 w1.heap.size (fun k => k = z.M) (hB4.below hb).L (RV.of_own ho) hkl
    rw [hB4.ya] at this
    exact this
  have hR4 := (hk.below B4).rs
  have hxl := xb4.lt
  have S4 : w4.cell? ⟨w.heap.size, 0, none⟩ = some (.int .i64 a) ∧ w4.cell? ⟨w.heap.size, 1, none⟩ = some (.int .i64 b) := ⟨xb4.at_ rfl, xb4.at_ rfl⟩
  have bd : Below w4.heap.size w4 w4.drew := (Below.refl _ _).drew
  have KK : ∀ wq, Below w4.heap.size w4 wq → wq.cell? ⟨w.heap.size, 0, none⟩ = some (.int .i64 a) ∧ wq.cell? ⟨w.heap.size, 1, none⟩ = some (.int .i64 b) := fun wq hb => ⟨(hb.cell (p := ⟨w.heap.size, 0, none⟩) hxl).trans S4.1, (hb.cell (p := ⟨w.heap.size, 1, none⟩) hxl).trans S4.2⟩
  have bE : ∀ o, Below w4.heap.size w4 (w4.drew.alloc o) := fun o => bd.alloc bd.size o
  clear hB3 B3 xb3 b4 c0 c1 hPok hB4 xb4
  by_cases h0 : (runP l).last ks a b true = 0
  · have e0 : ((runP l).last ks a b true == 0) = true := beq_iff_eq.2 h0
    clear h0 ha
    go_wp2_with fail
    first | (go_region_held_law (fun wq => wq.cell? ⟨w.heap.size, 0, none⟩ = some (.int .i64 a) ∧ wq.cell? ⟨w.heap.size, 1, none⟩ = some (.int .i64 b)) (first | exact S4 | exact KK _ (bE _) | exact KK _ b5 | exact KK _ b6) (first
      | (go_simp; go_at_call 25; refine (RC _ bd).mono ?_; rintro e wa ⟨rfl, rfl⟩)
      | (refine step_append_g (A := B) (m := ks.length) (c := cb) (v := .slice (some ⟨w4.heap.size, 0, none⟩) 0 0) (n := 0) (base := w4.heap.size) (xs := []) el_string rfl (.tmp 42) (.tmp 43) rfl rfl (own_empty w4.drew 9 1 (Nat.le_refl _)) rfl (by rw [cS_len]; omega) ((hR4.drew).alloc _) (cS_one _) (by unfold maxLen; omega) (by omega) (by simp) ?_; intro v5 w5 own5 gr5 hv5; (have own6 : w5.ownsRow w4.heap.size 9 1 v5 ks.length (cS ks) := by simpa using own5); (obtain ⟨A5, c5, hv5f, _, _⟩ := own_form own6); subst hv5f; have b5 : Below w4.heap.size w4 w5 := Below.grown (bE _) gr5 (by simp) (fun j hj => by have hj : w4.heap.size = j := Option.some.inj hj; omega); have LC := HL.out w5 A5 c5 b5 own6; clear own5 own6 gr5 hv5)
      | (go_simp; go_at_call 22; refine LC.mono ?_; rintro e w6 ⟨rfl, b6x⟩; have b6 := b5.trans (b6x.mono b5.size); clear LC b6x)
      | fail "arm")) | fail "region" 
    all_goals
      go_wp2_with fail
      go_ret
      exact ⟨rfl, B4.trans (b6.mono B4.size)⟩
  · have e0 : ((runP l).last ks a b true == 0) = false := beq_eq_false_iff_ne.2 h0
    have h1 := ha.resolve_left h0
    rw [h1] at q1 RC ⊢
    clear h0 ha h1
    go_wp2_with fail
    first | (go_region_held_law (fun wq => wq.cell? ⟨w.heap.size, 0, none⟩ = some (.int .i64 a) ∧ wq.cell? ⟨w.heap.size, 1, none⟩ = some (.int .i64 b)) (first | exact S4 | exact KK _ (bE _) | exact KK _ b5 | exact KK _ b6) (first
      | (go_simp; go_at_call 25; refine (RC _ bd).mono ?_; rintro e wa ⟨rfl, rfl⟩)
      | (refine step_append_g (A := B) (m := ks.length) (c := cb) (v := .slice (some ⟨w4.heap.size, 0, none⟩) 0 0) (n := 0) (base := w4.heap.size) (xs := []) el_string rfl (.tmp 42) (.tmp 43) rfl rfl (own_empty w4.drew 9 1 (Nat.le_refl _)) rfl (by rw [cS_len]; omega) ((hR4.drew).alloc _) (cS_one _) (by unfold maxLen; omega) (by omega) (by simp) ?_; intro v5 w5 own5 gr5 hv5; (have own6 : w5.ownsRow w4.heap.size 9 1 v5 ks.length (cS ks) := by simpa using own5); (obtain ⟨A5, c5, hv5f, _, _⟩ := own_form own6); subst hv5f; have b5 : Below w4.heap.size w4 w5 := Below.grown (bE _) gr5 (by simp) (fun j hj => by have hj : w4.heap.size = j := Option.some.inj hj; omega); have LC := HL.out w5 A5 c5 b5 own6; clear own5 own6 gr5 hv5)
      | (go_simp; go_at_call 22; refine LC.mono ?_; rintro e w6 ⟨rfl, b6x⟩; have b6 := b5.trans (b6x.mono b5.size); clear LC b6x)
      | fail "arm")) | fail "region" 
    all_goals
      go_wp2_with fail
      go_ret
      exact ⟨rfl, B4.trans (b6.mono B4.size)⟩
theorem purgeAny_walk (l : List ActR) (A : Option Addr) (cap : Nat) (ks : List Txt) (B : Option Addr) (cb : Nat) (a b : Int) (w : World) (hS : Std w) (hl : l.length ≤ 9223372036854775807) (hR : RV w A (l.flatMap ActR.cells)) (hx : ∀ o ∈ l, ActOK w o) (hk : KeysOK w B ks cb) (_ : -9223372036854775808 ≤ a) (_ : a ≤ 9223372036854775807) (_ : -9223372036854775808 ≤ b) (_ : b ≤ 9223372036854775807) :
    Calls Tryd.prog 5 #[.slice A l.length cap, .slice B ks.length cb, .agg #[.int .i64 a, .int .i64 b]] w fun e w' => e = .returned (.bool true) ∧ Below w.heap.size w w' := by
  cases hg : greatA l with
  | true => exact purgeAny_off1 l A cap ks B cb a b w hS hl hR hx hk hg
  | false =>
    cases hgk : greatB ks with
    | true => exact purgeAny_off2 l A cap ks B cb a b w hS hl hR hx hk hg hgk
    | false => exact purgeAny_on l A cap ks B cb a b w hS hl hR hx hk hg hgk
end Go.Proofs.YtdcjljlppeighaaDoor
