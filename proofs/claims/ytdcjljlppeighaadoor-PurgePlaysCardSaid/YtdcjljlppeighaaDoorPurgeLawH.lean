/-
  The walk of PurgePlays.
-/
import Derived.Test.YtdcjljlppeighaaDoorPurgeSame
namespace Go.Proofs.YtdcjljlppeighaaDoor
open Go.RowKit PurgeP

/-- What each call tells of both logs, behind some calls. -/
structure Plays (w5 : World) (D M : Nat) (A : Option Addr) (n c : Nat) (P : PLog) : Prop where
  nw : ∀ w9, Below w5.heap.size w5 w9 → Calls Tryd.prog 15 #[.pointer (some ⟨D, 0, none⟩)] w9 fun e w' => e = .returned (.int .i64 P.now) ∧ Below w9.heap.size w9 w'
  rn : ∀ w9, Below w5.heap.size w5 w9 → Calls Tryd.prog 16 #[.pointer (some ⟨M, 0, none⟩)] w9 fun e w' => e = .returned (.int .i64 P.now) ∧ Below w9.heap.size w9 w'
  fl : ∀ w9, Below w5.heap.size w5 w9 → Calls Tryd.prog 17 #[.pointer (some ⟨D, 0, none⟩)] w9 fun e w' => e = .returned (.int .i64 P.floor) ∧ w9 = w'
  c0 : ∀ w9, Below w5.heap.size w5 w9 → w9.cell? ⟨M, 0, none⟩ = some (.slice A n c)
  c1 : ∀ w9, Below w5.heap.size w5 w9 → w9.cell? ⟨M, 1, none⟩ = some (.int .i64 P.floor)
  li : ∀ w9, Below w5.heap.size w5 w9 → Calls Tryd.prog 19 #[.pointer (some ⟨D, 0, none⟩)] w9 fun e w' => ∃ v, e = .returned v ∧ Below w9.heap.size w9 w' ∧
    ∀ w10, Below w'.heap.size w' w10 → Calls Tryd.prog 18 #[v, .slice A n c] w10 fun e w' => e = .returned (.bool true) ∧ Below w10.heap.size w10 w'
theorem plays_of {w5 : World} {base : Nat} {y : LogR} {z : RefR} {P : PLog} (h : BothOK w5 base y z P) : Plays w5 y.D z.M z.A z.ls.length z.cap P := by
  have zf : z.floor = P.floor := congrArg PLog.floor h.za
  have yf : y.floor = P.floor := congrArg PLog.floor h.ya
  refine ⟨fun w9 b9 => ?_, fun w9 b9 => ?_, fun w9 b9 => ?_, fun w9 b9 => (h.below b9).R.bk.at_ rfl, fun w9 b9 => by rw [← zf]; exact (h.below b9).R.bk.at_ rfl, fun w9 b9 => ?_⟩
  · have := now_calls y w9 base _ (h.below b9).L
    rw [h.ya] at this
    exact this.mono fun e w' ⟨h1, q, h2⟩ => ⟨h1, by rw [h2]; exact drewN_below w9 q⟩
  · have := rnow_calls z w9 _ (h.below b9).R
    rw [h.za] at this
    exact this.mono fun e w' ⟨h1, q, h2⟩ => ⟨h1, by rw [h2]; exact drewN_below w9 q⟩
  · have := floor_calls y w9 base _ (h.below b9).L
    rw [yf] at this
    exact this
  · refine (lines_calls y w9 base _ (h.below b9).L).mono ?_
    rintro e w' ⟨v, rfl, rs, _, hra, hrow, bel⟩
    refine ⟨v, rfl, bel, fun w10 b10 => ?_⟩
    have h9 := ((h.below b9).below bel).below b10
    rw [List.take_length] at hra
    exact all_calls z _ _ _ v rs w10 (hrow.below b10) h9.R (by
      rw [hra]
      have e1 : y.abs.ls = z.abs.ls := by rw [h.ya, h.za]
      exact e1)
theorem plays_off (l : List ActR) (A : Option Addr) (cap : Nat) (w : World) (hS : Std w) (hl : l.length ≤ 9223372036854775807) (hR : RV w A (l.flatMap ActR.cells)) (hx : ∀ o ∈ l, ActOK w o) (hg : greatA l = true) :
    Calls Tryd.prog 3 #[.slice A l.length cap] w fun e w' => e = .returned (.bool true) ∧ Below w.heap.size w w' := by
  go_enter Tryd.func3, Tryd.ntmps3
  go_wp2_with fail
  refine (fresh_calls w).mono ?_
  rintro e w1 ⟨y, rfl, -, -, b1⟩
  have b2 : ∀ o, Below w.heap.size w (w1.alloc o) := fun o => b1.alloc b1.size o
  have AW := fun o => awake_calls _ (hS.below (b2 o))
  go_wp2_with fail
  refine (AW _).mono ?_
  clear AW
  rintro e w3 ⟨rfl, b3⟩
  have B3 := (b2 _).trans (b3.mono (b2 _).size)
  have GC := great_calls l A cap w w3 B3 hl hR hx
  rw [hg] at GC
  clear hg hx hR b3 b2 b1
  go_wp2_with fail
  refine GC.mono ?_
  clear GC
  rintro e w4 ⟨rfl, b4⟩
  have B4 := B3.trans (b4.mono B3.size)
  have AW := awake_calls _ (hS.below B4)
  clear b4 B3
  go_wp2_with fail
  refine AW.mono ?_
  clear AW
  rintro e w5 ⟨rfl, b5⟩
  go_wp2_with fail
  go_ret
  exact ⟨rfl, B4.trans (b5.mono B4.size)⟩
set_option maxHeartbeats 3200000 in
set_option maxRecDepth 100000 in
theorem plays_on (l : List ActR) (A : Option Addr) (cap : Nat) (w : World) (hS : Std w) (hl : l.length ≤ 9223372036854775807) (hR : RV w A (l.flatMap ActR.cells)) (hx : ∀ o ∈ l, ActOK w o) (hg : greatA l = false) :
    Calls Tryd.prog 3 #[.slice A l.length cap] w fun e w' => e = .returned (.bool true) ∧ Below w.heap.size w w' := by
  obtain ⟨hg1, hg2⟩ := great_acts hg
  go_enter Tryd.func3, Tryd.ntmps3
  go_wp2_with fail
  refine (fresh_calls w).mono ?_
  rintro e w1 ⟨y0, rfl, hy0, ha0, b1⟩
  obtain ⟨w2, hw2⟩ : ∃ w2, w1.alloc (.cells #[.slice none 0 0, .int .i64 0] 28) = w2 := ⟨_, rfl⟩
  have BN := both_new hy0 ha0 b1.size
  rw [hw2] at BN
  have b2 : Below w.heap.size w w2 := by rw [← hw2]; exact b1.alloc b1.size _
  have HW2 := Lib.hid hw2
  have AW := awake_calls _ (hS.below b2)
  obtain ⟨M0, hM0⟩ : ∃ M0, M0 = w1.heap.size := ⟨_, rfl⟩
  rw [← hM0] at BN
  have HM := Lib.hid hM0
  clear hw2 hy0 ha0 hM0
  go_wp2_with fail
  rw [HW2.out, ← HM.out]
  refine AW.mono ?_
  clear AW HW2 HM
  rintro e w3 ⟨rfl, b3⟩
  have B3 : Below w.heap.size w w3 := b2.trans (b3.mono b2.size)
  have BN3 := BN.below b3
  have GC := great_calls l A cap w w3 B3 hl hR hx
  rw [hg] at GC
  clear b3 b2 BN b1
  go_wp2_with fail
  refine GC.mono ?_
  clear GC
  rintro e w4 ⟨rfl, b4⟩
  have B4 : Below w.heap.size w w4 := B3.trans (b4.mono B3.size)
  have BN4 := BN3.below b4
  clear b4 BN3 B3
  go_wp2_with fail
  go_loopw [23] (fun i wr => ∃ (k : Nat) (y : LogR) (z : RefR), k ≤ l.length ∧ i = .int .i64 (k : Int) ∧ BothOK wr w.heap.size y z (runP (l.take k)) ∧ y.D = y0.D ∧ z.M = M0 ∧ Below w.heap.size w wr) (fun i _ => l.length - (intOf i).toNat)
  case atStart => exact ⟨0, y0, _, by omega, rfl, BN4, rfl, rfl, B4⟩
  case round =>
    obtain ⟨k, y, z, hk, rfl, hB, hD, hM, bel⟩ := hrel
    have HD := Lib.hid hD
    have HM := Lib.hid hM
    clear hD hM BN4
    by_cases hlt : k < l.length
    · have hdec : decide ((k : Int) < (l.length : Int)) = true := decide_eq_true (by omega)
      have hdec' : decide (k < l.length) = true := decide_eq_true hlt
      have hltI : (k : Int) < (l.length : Int) := by omega
      obtain ⟨a, ha⟩ : ∃ a, l[k]? = some a := ⟨_, List.getElem?_eq_getElem hlt⟩
      have hao := hx a (List.mem_of_getElem? ha)
      have hag := hg2 a (List.mem_of_getElem? ha)
      obtain ⟨b, off, rfl, hbb, q0, q1, q2, q3⟩ := act_cells (hR.below bel) ha
      obtain ⟨w6, hw6⟩ : ∃ w6, wr.alloc (.cells #[.int .i64 a.kind, .slice a.A a.keys.length a.cap, .bool a.hard, .int .i64 a.n] 33) = w6 := ⟨_, rfl⟩
      have xb : Blk w6 wr.heap.size 33 #[.int .i64 a.kind, .slice a.A a.keys.length a.cap, .bool a.hard, .int .i64 a.n] := by rw [← hw6]; exact Blk.new _ _ _
      have b6 : Below wr.heap.size wr w6 := by rw [← hw6]; exact (Below.refl _ _).alloc (Nat.le_refl _) _
      have HW6 := Lib.hid hw6
      clear hw6
      have bd : Below w6.heap.size w6 w6.drew := (Below.refl _ _).drew
      have B6 : Below w.heap.size w w6 := bel.trans (b6.mono bel.size)
      have B6d : Below w.heap.size w w6.drew := B6.drew
      have DC := do_calls y z (runP (l.take k)) a w w6.drew B6d ((hB.below b6).below bd) hao hag
      rw [← runP_succ ha, HD.out, HM.out] at DC
      have k0 : w6.cell? ⟨wr.heap.size, 0, none⟩ = some (.int .i64 a.kind) := xb.at_ rfl
      have k1 : w6.cell? ⟨wr.heap.size, 1, none⟩ = some (.slice a.A a.keys.length a.cap) := xb.at_ rfl
      have k2 : w6.cell? ⟨wr.heap.size, 2, none⟩ = some (.bool a.hard) := xb.at_ rfl
      have k3 : w6.cell? ⟨wr.heap.size, 3, none⟩ = some (.int .i64 a.n) := xb.at_ rfl
      obtain ⟨Q, hQ⟩ : ∃ Q, Q = runP (l.take (k + 1)) := ⟨_, rfl⟩
      rw [← hQ] at DC
      have m1 : (Q.now != Q.now) = false := by simp
      have m2 : (Q.floor != Q.floor) = false := by simp
      have HRL : Hid (∀ (w7 w9 : World) (y' : LogR) (z' : RefR), BothOK w7 w.heap.size y' z' Q → y'.D = y.D → z'.M = z.M → Below w.heap.size w w7 → Below w7.heap.size w7 w9 → ∃ (k' : Nat) (y : LogR) (z : RefR), k' ≤ l.length ∧ Value.int .i64 ((k : Int) + 1) = .int .i64 (k' : Int) ∧ BothOK w9 w.heap.size y z (runP (l.take k')) ∧ y.D = y0.D ∧ z.M = M0 ∧ Below w.heap.size w w9) :=
        fun w7 w9 y' z' h7 e1 e2 b7 b9 => ⟨k + 1, y', z', by omega, by go_num, by rw [← hQ]; exact h7.below b9, e1.trans HD.out, e2.trans HM.out, b7.trans (b9.mono b7.size)⟩
      clear hB hR hx hg hg1 hg2 hao hag ha xb hQ bel b6
      go_wp2_with fail
      rw [HW6.out]
      go_region_law (go_simp; first
        | (go_at_call 14; refine DC.mono ?_; rintro e w7 ⟨rfl, y', z', h7, hD7, hM7, b7⟩; have B7 := B6d.trans b7; (have PL : Plays w7 y0.D M0 z'.A z'.ls.length z'.cap Q := by have := plays_of h7; rw [hD7, hM7, HD.out, HM.out] at this; exact this); have HE := Lib.hid (fun w9 b9 => HRL.out w7 w9 y' z' h7 hD7 hM7 B7 b9); clear h7 hD7 hM7 b7)
        | (go_at_call 15; refine (PL.nw _ (Below.refl _ _)).mono ?_; rintro e w8 ⟨rfl, b8⟩)
        | (go_at_call 16; refine (PL.rn _ b8).mono ?_; rintro e w9 ⟨rfl, b9x⟩; have b9 := b8.trans (b9x.mono b8.size); have e0 := PL.c0 _ b9; have e1 := PL.c1 _ b9; clear b9x)
        | (go_at_call 17; refine (PL.fl _ b9).mono ?_; rintro e w9b ⟨rfl, rfl⟩)
        | (go_at_call 19; refine (PL.li _ b9).mono ?_; rintro e w10 ⟨v, rfl, b10x, SA⟩; have b10 := b9.trans (b10x.mono b9.size); have e2 := PL.c0 _ b10; clear b10x)
        | (go_at_call 18; refine (SA _ (Below.refl _ _)).mono ?_; rintro e w11 ⟨rfl, b11x⟩; have b11 := b10.trans (b11x.mono b10.size); have HF := Lib.hid (HE.out _ b11); clear b11x)
        | fail "arm")
      all_goals
        clear HE PL HRL DC
        go_wp2_with fail
        go_roundw
        case rel => exact HF.out
        case measure => simp [intOf]; omega
    · obtain rfl : k = l.length := by omega
      clear hB hR hx hg hg1 hg2
      go_wp2_with fail
      go_ret
      exact ⟨rfl, bel⟩
theorem purgePlays_walk (l : List ActR) (A : Option Addr) (cap : Nat) (w : World) (hS : Std w) (hl : l.length ≤ 9223372036854775807) (hR : RV w A (l.flatMap ActR.cells)) (hx : ∀ o ∈ l, ActOK w o) :
    Calls Tryd.prog 3 #[.slice A l.length cap] w fun e w' => e = .returned (.bool true) ∧ Below w.heap.size w w' := by
  cases hg : greatA l with
  | true => exact plays_off l A cap w hS hl hR hx hg
  | false => exact plays_on l A cap w hS hl hR hx hg
end Go.Proofs.YtdcjljlppeighaaDoor
