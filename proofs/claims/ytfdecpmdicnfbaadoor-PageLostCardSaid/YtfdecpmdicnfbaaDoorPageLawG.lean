/-
  The walk of the statement PageBack: it returns true and changes nothing that was there.
-/
import Derived.Test.YtfdecpmdicnfbaaDoorPageMadeB
namespace Go.Proofs.YtfdecpmdicnfbaaDoor
open Go.RowKit DiskP SumP PageP

theorem OpOK.below {w w' : World} {o : OpR} (h : OpOK w o) (hb : Below w.heap.size w w') : OpOK w' o := ⟨h.a1, h.a2, h.m1, h.m2, h.bl, h.bc, h.kl, h.rb.below hb, h.rk.below hb⟩
theorem CaseOK.below {w w' : World} {z : CaseR} (h : CaseOK w z) (hb : Below w.heap.size w w') : CaseOK w' z := ⟨h.s1, h.s2, h.z1, h.z2, h.ll, h.rv.below hb, fun o ho => (h.ok o ho).below hb⟩
theorem putE_zero {d : Dsk} {at_ : Int} {kind : UInt8} {len : Nat} (h : putE d at_ kind len = 0) : 0 ≤ at_ ∧ at_ < (d.last.length : Int) ∧ kind ≠ 0 ∧ 1 ≤ need d.size len ∧ need d.size len ≤ (d.last.length : Int) - at_ ∧ d.off = false := by
  unfold putE at h
  split at h
  · cases h
  · rename_i h1
    split at h
    · cases h
    · rename_i h2
      split at h
      · cases h
      · rename_i h3
        have hh : d.has at_ = true := by
          cases hx : d.has at_
          · exact absurd (.inl hx) h1
          · rfl
        unfold Dsk.has at hh
        simp only [Bool.and_eq_true, decide_eq_true_eq] at hh
        exact ⟨hh.1, hh.2, fun e => h1 (.inr e), by omega, by omega, by simpa using h3⟩
set_option maxHeartbeats 3200000 in
set_option maxRecDepth 100000 in
theorem pageBack_walk (z : CaseR) (o : OpR) (w : World) (hT : Tab w) (hz : CaseOK w z) (ho : OpOK w o) :
    Calls Tryd.prog 6 #[.agg z.cells.toArray, .agg o.cells.toArray] w fun e w' => e = .returned (.bool true) ∧ Below w.heap.size w w' := by
  obtain ⟨okd, oat, oty, omk, obs, oba, obc, okp, oka, okc⟩ := o
  obtain ⟨zs, zz, l, la, lc⟩ := z
  have om1 := ho.m1
  have om2 := ho.m2
  have obl : obs.length ≤ obc := ho.bl
  have obcc : obc ≤ 9223372036854775807 := ho.bc
  simp only at om1 om2
  have cb := (Blk.new w 35 #[.int .i64 zs, .int .i64 zz, .slice la l.length lc]).alloc (.cells #[.int .u8 (okd.toNat : Int), .int .i64 oat, .int .u8 (oty.toNat : Int), .int .i64 omk, .slice oba obs.length obc, .slice oka okp.length okc] 46)
  have ob := Blk.new (w.alloc (.cells #[.int .i64 zs, .int .i64 zz, .slice la l.length lc] 35)) 46 #[.int .u8 (okd.toNat : Int), .int .i64 oat, .int .u8 (oty.toNat : Int), .int .i64 omk, .slice oba obs.length obc, .slice oka okp.length okc]
  have B1 : Below w.heap.size w ((w.alloc (.cells #[.int .i64 zs, .int .i64 zz, .slice la l.length lc] 35)).alloc (.cells #[.int .u8 (okd.toNat : Int), .int .i64 oat, .int .u8 (oty.toNat : Int), .int .i64 omk, .slice oba obs.length obc, .slice oka okp.length okc] 46)) :=
    ((Below.refl _ _).alloc (Nat.le_refl _) _).alloc (by simp) _
  have hs1 : (w.alloc (.cells #[.int .i64 zs, .int .i64 zz, .slice la l.length lc] 35)).heap.size = w.heap.size + 1 := by simp
  rw [hs1] at ob
  show Calls Tryd.prog 6 #[.agg #[.int .i64 zs, .int .i64 zz, .slice la l.length lc], .agg #[.int .u8 (okd.toNat : Int), .int .i64 oat, .int .u8 (oty.toNat : Int), .int .i64 omk, .slice oba obs.length obc, .slice oka okp.length okc]] w _
  have hg := hT.lt
  go_enter Tryd.func6, Tryd.ntmps6
  go_wp2_with fail
  clear hs1
  generalize (w.alloc (.cells #[.int .i64 zs, .int .i64 zz, .slice la l.length lc] 35)).alloc (.cells #[.int .u8 (okd.toNat : Int), .int .i64 oat, .int .u8 (oty.toNat : Int), .int .i64 omk, .slice oba obs.length obc, .slice oka okp.length okc] 46) = w1 at *
  have lt1 : w.heap.size + 1 < w1.heap.size := ob.lt
  refine (made_calls ⟨zs, zz, l, la, lc⟩ w1 (hT.below B1) (hz.below B1)).mono ?_
  rintro e w2 (⟨rfl, b2⟩ | ⟨y, rfl, hd, -, -, h12, h64, hwp, b2⟩)
  · have bel := B1.trans (b2.mono B1.size)
    have T2 := hT.below bel
    go_wp2_with fail
    refine (awake_calls w2 T2).mono ?_
    rintro e w3 ⟨rfl, b3⟩
    clear T2 hT
    go_wp2
    go_ret
    exact ⟨rfl, bel.trans (b3.mono bel.size)⟩
  · have bel := B1.trans (b2.mono B1.size)
    have T2 := hT.below bel
    have ob2 := ob.below b2 lt1
    have g4 : w2.cell? ⟨w.heap.size + 1, 4, none⟩ = some (.slice oba obs.length obc) := ob2.at_ rfl
    by_cases t6 : 200 < obs.length
    · have d6 : decide (200 < (obs.length : Int)) = true := decide_eq_true (by omega)
      clear t6
      go_wp2_with fail
      refine (awake_calls w2 T2).mono ?_
      rintro e w3 ⟨rfl, b3⟩
      clear T2 hT
      go_wp2
      go_ret
      exact ⟨rfl, bel.trans (b3.mono bel.size)⟩
    have d6 : decide (200 < (obs.length : Int)) = false := decide_eq_false (by omega)
    go_wp2_with fail
    refine (on_next y w2 w1.heap.size hd).mono ?_
    rintro e w3 ⟨rfl, y3, h3, a3, d3, k3, f3⟩
    have b3 := b2.trans (k3.below (fun j _ hj => (hd.foot_lt hj).1) b2.size)
    have hwp3 : y3.wp.length ≤ 400 := by
      have := (goes_on y.abs).wait
      rw [wlen, a3]
      rw [wlen] at hwp
      omega
    clear d6 g4 ob2 bel T2
    rw [← d3]
    have bel := B1.trans (b3.mono B1.size)
    have T3 := hT.below bel
    have ob3 := ob.below b3 lt1
    have g1 : w3.cell? ⟨w.heap.size + 1, 1, none⟩ = some (.int .i64 oat) := ob3.at_ rfl
    have g2 : w3.cell? ⟨w.heap.size + 1, 2, none⟩ = some (.int .u8 (oty.toNat : Int)) := ob3.at_ rfl
    have g3 : w3.cell? ⟨w.heap.size + 1, 3, none⟩ = some (.int .i64 omk) := ob3.at_ rfl
    have g4 : w3.cell? ⟨w.heap.size + 1, 4, none⟩ = some (.slice oba obs.length obc) := ob3.at_ rfl
    have RBS : RVF w3 y3.foot oba (cB obs) := rvf_in ho.rb bel h3 (by omega)
    have P := pput_calls y3 oat oty omk obs oba obc w3 w1.heap.size h3 T3 b3.size RBS obl obcc (by omega) (by omega)
    clear RBS ob3 k3 f3 d3 b2 hd
    by_cases hE : putE y3.abs oat oty obs.length = 0
    · obtain ⟨q1, q2, q3, q4, q5, q6⟩ := putE_zero hE
      obtain ⟨a, rfl⟩ := Int.eq_ofNat_of_zero_le q1
      have hG := getR_put y3.abs a oty omk obs hE om1 om2
      have hl3 : y3.abs.last.length = y3.lp.length := by simp [Lay.abs]
      rw [hl3] at q2 q5
      have hz3 : y3.abs.size = y3.size := rfl
      rw [hz3] at q4 q5
      rw [hE] at P
      have hNN : putN y3.abs (a : Int) oty obs.length = need y3.size obs.length := if_pos hE
      have gs := goes_put y3.abs (a : Int) oty omk obs
      generalize putN y3.abs (a : Int) oty obs.length = N at *
      generalize putS y3.abs (a : Int) oty omk obs = SS at *
      clear hE q1
      go_wp2_with fail
      refine P.mono ?_
      clear P
      rintro e w4 ⟨rfl, y4, h4, a4, d4, k4, f4⟩
      have b4 := b3.trans (k4.below (fun j _ hj => (h3.foot_lt hj).1) b3.size)
      rw [← d4]
      have bel4 := B1.trans (b4.mono B1.size)
      have T4 := hT.below bel4
      have ob4 := ob.below b4 lt1
      have g1 : w4.cell? ⟨w.heap.size + 1, 1, none⟩ = some (.int .i64 (a : Int)) := ob4.at_ rfl
      have hl4 : (y4.lp.length : Int) = (y3.lp.length : Int) := by
        have : y4.abs.last.length = y4.lp.length := by simp [Lay.abs]
        rw [← this, a4, gs.last, hl3]
      have hz4 : y4.size = y3.size := by
        have : y4.abs.size = y4.size := rfl
        rw [← this, a4, gs.size]
        rfl
      have G := pget_calls y4 (a : Int) w4 w1.heap.size h4 T4
      rw [a4, hG] at G
      clear hG a4 gs k4 f4 d4 h3 a3 b3 bel T3 hl3
      go_wp2_with fail
      refine G.mono ?_
      clear G
      rintro e w5 ⟨v5, rfl, o5, b5⟩
      have h5 := h4.below b5
      obtain ⟨A5, c5, hv5, _, _⟩ := own_form o5
      have r5 : RB w5 A5 obs := by rw [hv5] at o5; exact RV.of_own o5
      have bel5 := bel4.trans (b5.mono bel4.size)
      have cv := run_str w5 _ _ _ Tryd.underlying27 Tryd.underlying5 Tryd.underlying9 A5 obs obs.length c5 r5 rfl
      have cw := run_str w5 _ _ _ Tryd.underlying27 Tryd.underlying5 Tryd.underlying9 oba obs obs.length obc (ho.rb.below bel5) rfl
      subst hv5
      have T5 := hT.below bel5
      have ob5 := ob4.below b5 ob4.lt
      have g1 : w5.cell? ⟨w.heap.size + 1, 1, none⟩ = some (.int .i64 (a : Int)) := ob5.at_ rfl
      have g2 : w5.cell? ⟨w.heap.size + 1, 2, none⟩ = some (.int .u8 (oty.toNat : Int)) := ob5.at_ rfl
      have g3 : w5.cell? ⟨w.heap.size + 1, 3, none⟩ = some (.int .i64 omk) := ob5.at_ rfl
      have g4 : w5.cell? ⟨w.heap.size + 1, 4, none⟩ = some (.slice oba obs.length obc) := ob5.at_ rfl
      have F := fits_calls y4 (a : Int) (obs.length : Int) w5 w1.heap.size h5 (by omega) (by omega)
      have hF : fitsB y4 (a : Int) (obs.length : Int) = true := by unfold fitsB; rw [hz4, hl4]; simp; omega
      rw [hF] at F
      clear hF h4 h5 o5 r5 ob4 ob5 b4 b5 bel4 T4 hz ho
      go_wp2_with fail
      refine F.mono ?_
      clear F
      rintro e w6 ⟨rfl, q, rfl⟩
      have T6 : Tab (w5.drewN q) := T5
      go_wp2_with fail
      refine (awake_calls _ T6).mono ?_
      rintro e w7 ⟨rfl, b7⟩
      have b7' : Below w5.heap.size w5 w7 := ⟨b7.os, b7.tape, b7.output, b7.size, b7.block⟩
      clear T6 T5 hT cv cw
      go_wp2
      go_ret
      exact ⟨rfl, bel5.trans (b7'.mono bel5.size)⟩
    · have e0 : (putE y3.abs oat oty obs.length != 0) = true := by simpa using hE
      generalize putE y3.abs oat oty obs.length = E at *
      generalize putN y3.abs oat oty obs.length = N at *
      generalize putS y3.abs oat oty omk obs = SS at *
      clear hE
      go_wp2_with fail
      refine P.mono ?_
      clear P
      rintro e w4 ⟨rfl, y4, h4, a4, d4, k4, f4⟩
      have b4 := b3.trans (k4.below (fun j _ hj => (h3.foot_lt hj).1) b3.size)
      have bel4 := B1.trans (b4.mono B1.size)
      have T4 := hT.below bel4
      clear k4 f4 h4 d4 a4
      go_wp2_with fail
      refine (awake_calls _ T4).mono ?_
      rintro e w7 ⟨rfl, b7⟩
      clear T4 hT
      go_wp2
      go_ret
      exact ⟨rfl, bel4.trans (b7.mono bel4.size)⟩
end Go.Proofs.YtfdecpmdicnfbaaDoor
