/-
  The walk of the statement PagePuts: it returns true and changes nothing that was there.
-/
import Derived.Test.YtfdecpmdicnfbaaDoorPageLawG
import Derived.Test.YtfdecpmdicnfbaaDoorPageTold
import Derived.Test.YtfdecpmdicnfbaaDoorPageSector
import Derived.Test.YtfdecpmdicnfbaaDoorPageLawD
import Derived.BigQuiet
import Derived.Deep.QuietTactic
import Derived.Deep.CutRange
import Derived.Deep.CutBlock
namespace Go.Proofs.YtfdecpmdicnfbaaDoor
open Go.RowKit DiskP SumP PageP

theorem need_bnd (size bytes : Int) : need size bytes ≤ 1073741824 ∧ 0 ≤ need size bytes := by
  unfold need
  split
  · omega
  · split
    · omega
    · rename_i h1 h2
      have h3 : (bytes + (size - 18) - 1) / (size - 18) ≤ 1073741824 := by
        have : (bytes + (size - 18) - 1) / (size - 18) < 1073741825 := Int.ediv_lt_of_lt_mul (by omega) (by
          have : 1073741825 * 1 ≤ 1073741825 * (size - 18) := Int.mul_le_mul_of_nonneg_left (by omega) (by omega)
          omega)
        omega
      omega
theorem put_ways (d : Dsk) (at_ : Int) (kind : UInt8) (len : Nat) (ho : d.off = false) :
    (putE d at_ kind len = 1 ∧ putN d at_ kind len = 0 ∧ (at_ < 0 ∨ (d.last.length : Int) ≤ at_ ∨ kind = 0)) ∨
    (putE d at_ kind len = 5 ∧ putN d at_ kind len = 0 ∧ 0 ≤ at_ ∧ at_ < (d.last.length : Int) ∧ kind ≠ 0 ∧ (need d.size len < 1 ∨ (d.last.length : Int) < at_ + need d.size len)) ∨
    (putE d at_ kind len = 0 ∧ putN d at_ kind len = need d.size len ∧ 0 ≤ at_ ∧ at_ < (d.last.length : Int) ∧ kind ≠ 0 ∧ 1 ≤ need d.size len ∧ at_ + need d.size len ≤ (d.last.length : Int)) := by
  by_cases h1 : d.has at_ = false ∨ kind = 0
  · have e : putE d at_ kind len = 1 := if_pos h1
    refine .inl ⟨e, by unfold putN; rw [e]; rfl, ?_⟩
    rcases h1 with h | h
    · unfold Dsk.has at h
      simp at h
      omega
    · exact .inr (.inr h)
  · have hh : d.has at_ = true := by
      cases hx : d.has at_
      · exact absurd (.inl hx) h1
      · rfl
    have hk : kind ≠ 0 := fun e => h1 (.inr e)
    unfold Dsk.has at hh
    simp only [Bool.and_eq_true, decide_eq_true_eq] at hh
    by_cases h2 : need d.size len < 1 ∨ (d.last.length : Int) - at_ < need d.size len
    · have e : putE d at_ kind len = 5 := by unfold putE; rw [if_neg h1, if_pos h2]
      refine .inr (.inl ⟨e, by unfold putN; rw [e]; rfl, hh.1, hh.2, hk, ?_⟩)
      omega
    · have e : putE d at_ kind len = 0 := by unfold putE; rw [if_neg h1, if_neg h2, ho]; rfl
      exact .inr (.inr ⟨e, if_pos e, hh.1, hh.2, hk, by omega, by omega⟩)
theorem puts_in (d : Dsk) (a : Nat) (kind : UInt8) (mark : Int) (b : List UInt8) (nn i : Nat) (hi : i < nn) (ha : a + nn ≤ d.last.length) (ho : d.off = false) :
    (putD d a kind mark b nn).readE ((a + i : Nat) : Int) = 0 ∧ (putD d a kind mark b nn).readL ((a + i : Nat) : Int) = sect d.size kind mark (b.drop (i * (d.size - 18))) (i == 0) :=
  read_told _ _ _ false (told_put d a kind mark b nn i hi ha) ho
theorem read_same (d e : Dsk) (n : Nat) (h1 : d.last.length = e.last.length) (h2 : d.off = e.off) (h3 : d.told[n]? = e.told[n]?) : d.readE (n : Int) = e.readE (n : Int) ∧ d.readL (n : Int) = e.readL (n : Int) := by
  have hE : d.readE (n : Int) = e.readE (n : Int) := by
    unfold Dsk.readE Dsk.has
    rw [h1, h2, Int.toNat_natCast, h3]
  refine ⟨hE, ?_⟩
  unfold Dsk.readL Dsk.readB
  rw [hE, Int.toNat_natCast, h3]
theorem puts_out (d : Dsk) (a : Nat) (kind : UInt8) (mark : Int) (b : List UInt8) (nn j : Nat) (hj : j < a ∨ a + nn ≤ j) :
    (putD d a kind mark b nn).readE (j : Int) = d.readE (j : Int) ∧ (putD d a kind mark b nn).readL (j : Int) = d.readL (j : Int) :=
  read_same _ _ j rfl rfl (told_put_far d a kind mark b nn j hj)
theorem puts_key (d : Dsk) (at_ : Int) (kind : UInt8) (mark : Int) (b : List UInt8) (ho : d.off = false) (k : Nat) (hk : k < d.last.length) :
    ((at_ ≤ (k : Int) ∧ (k : Int) < at_ + putN d at_ kind b.length) → ∃ i : Nat, (k : Int) - at_ = (i : Int) ∧ (putS d at_ kind mark b).readE (k : Int) = 0 ∧ (putS d at_ kind mark b).readL (k : Int) = sect d.size kind mark (b.drop (i * (d.size - 18))) (i == 0) ∧ i * (d.size - 18) ≤ b.length ∧ 19 ≤ d.size ∧ d.size ≤ 4096 ∧ b.length ≤ 1073741824) ∧
    (¬ (at_ ≤ (k : Int) ∧ (k : Int) < at_ + putN d at_ kind b.length) → (putS d at_ kind mark b).readE (k : Int) = d.readE (k : Int) ∧ (putS d at_ kind mark b).readL (k : Int) = d.readL (k : Int)) := by
  by_cases hE : putE d at_ kind b.length = 0
  · obtain ⟨q1, q2, q3, q4, q5, q6⟩ := putE_zero hE
    obtain ⟨a, rfl⟩ := Int.eq_ofNat_of_zero_le q1
    obtain ⟨nn, e1, e2, e3, e4⟩ := need_nat d.size b.length (by omega)
    have hp := need_pos (size := d.size) (bytes := b.length) (by omega)
    have hN : putN d (a : Int) kind b.length = (nn : Int) := by unfold putN; rw [if_pos hE, e1]
    have hS : putS d (a : Int) kind mark b = putD d a kind mark b nn := by unfold putS; rw [if_pos hE, e1, Int.toNat_natCast, Int.toNat_natCast]
    rw [hN, hS]
    constructor
    · rintro ⟨h1, h2⟩
      obtain ⟨i, rfl⟩ : ∃ i, k = a + i := ⟨k - a, by omega⟩
      obtain ⟨r1, r2⟩ := puts_in d a kind mark b nn i (by omega) (by omega) q6
      refine ⟨i, by omega, r1, r2, ?_, by omega, by omega, by omega⟩
      by_cases h0 : i = 0
      · subst h0; simp
      · have := e3 i (by omega) (by omega); omega
    · intro h
      exact puts_out d a kind mark b nn k (by omega)
  · have hN : putN d at_ kind b.length = 0 := if_neg hE
    have hS : putS d at_ kind mark b = d := if_neg hE
    rw [hN, hS]
    exact ⟨fun h => by omega, fun _ => ⟨rfl, rfl⟩⟩
/-- What is told, one sector after the other. -/
theorem told_at {w : World} {base n g cap : Nat} {d : Dsk} (h : w.ownsRow base 48 2 (.slice (some ⟨g, 0, none⟩) n cap) n (toldC d n)) (k : Nat) (hk : k < n) :
    w.cell? ⟨g, k * 2, none⟩ = some (.string (bstr (d.readL (k : Int)))) ∧ w.cell? ⟨g, k * 2 + 1, none⟩ = some (.int .i64 (d.readE (k : Int))) := by
  obtain ⟨h1, h2⟩ := toldC_get d n k hk
  rw [h.cellAt _ (by omega), h.cellAt _ (by omega), Nat.mul_comm]
  exact ⟨h1, h2⟩
theorem told_blk {w : World} {base n : Nat} {d : Dsk} {v : Value} (h : w.ownsRow base 48 2 v n (toldC d n)) (hn : 1 ≤ n) : ∃ g cap, v = .slice (some ⟨g, 0, none⟩) n cap ∧ base ≤ g ∧ g < w.heap.size := by
  rcases h.2 with ⟨_, h0⟩ | ⟨g, cap, cur, rfl, h1, h2, _⟩
  · omega
  · exact ⟨g, cap, rfl, h1, lt_of_block h2⟩
set_option maxHeartbeats 6400000 in
set_option maxRecDepth 100000 in
theorem pagePuts_walk (z : CaseR) (o : OpR) (w : World) (hT : Tab w) (hz : CaseOK w z) (ho : OpOK w o) :
    Calls Tryd.prog 5 #[.agg z.cells.toArray, .agg o.cells.toArray] w fun e w' => e = .returned (.bool true) ∧ Below w.heap.size w w' := by
  obtain ⟨okd, oat, oty, omk, obs, oba, obc, okp, oka, okc⟩ := o
  obtain ⟨zs, zz, l, la, lc⟩ := z
  have om1 := ho.m1
  have om2 := ho.m2
  have obl : obs.length ≤ obc := ho.bl
  have obcc : obc ≤ 9223372036854775807 := ho.bc
  simp only at om1 om2
  have cb := (Blk.new w 35 #[.int .i64 zs, .int .i64 zz, .slice la l.length lc]).alloc (.cells #[.int .u8 (okd.toNat : Int), .int .i64 oat, .int .u8 (oty.toNat : Int), .int .i64 omk, .slice oba obs.length obc, .slice oka okp.length okc] 46)
  have ob := Blk.new (w.alloc (.cells #[.int .i64 zs, .int .i64 zz, .slice la l.length lc] 35)) 46 #[.int .u8 (okd.toNat : Int), .int .i64 oat, .int .u8 (oty.toNat : Int), .int .i64 omk, .slice oba obs.length obc, .slice oka okp.length okc]
  have B1 : Below w.heap.size w ((w.alloc (.cells #[.int .i64 zs, .int .i64 zz, .slice la l.length lc] 35)).alloc (.cells #[.int .u8 (okd.toNat : Int), .int .i64 oat, .int .u8 (oty.toNat : Int), .int .i64 omk, .slice oba obs.length obc, .slice oka okp.length okc] 46)) := ((Below.refl _ _).alloc (Nat.le_refl _) _).alloc (by simp) _
  have hs1 : (w.alloc (.cells #[.int .i64 zs, .int .i64 zz, .slice la l.length lc] 35)).heap.size = w.heap.size + 1 := by simp
  rw [hs1] at ob
  show Calls Tryd.prog 5 #[.agg #[.int .i64 zs, .int .i64 zz, .slice la l.length lc], .agg #[.int .u8 (okd.toNat : Int), .int .i64 oat, .int .u8 (oty.toNat : Int), .int .i64 omk, .slice oba obs.length obc, .slice oka okp.length okc]] w _
  have hg := hT.lt
  go_enter Tryd.func5, Tryd.ntmps5
  go_wp2_with fail
  clear hs1
  generalize ((w.alloc (.cells #[.int .i64 zs, .int .i64 zz, .slice la l.length lc] 35)).alloc (.cells #[.int .u8 (okd.toNat : Int), .int .i64 oat, .int .u8 (oty.toNat : Int), .int .i64 omk, .slice oba obs.length obc, .slice oka okp.length okc] 46)) = w1 at *
  have lt1 : w.heap.size + 1 < w1.heap.size := ob.lt
  refine (made_calls ⟨zs, zz, l, la, lc⟩ w1 (hT.below B1) (hz.below B1)).mono ?_
  rintro e w2 (⟨rfl, b2⟩ | ⟨y, rfl, hd, hzs, hzz, h12, h64, hwp, b2⟩)
  · have bel := B1.trans (b2.mono B1.size)
    have T2 := hT.below bel
    go_wp2_with fail
    refine (awake_calls w2 T2).mono ?_
    rintro e w3 ⟨rfl, b3⟩
    clear T2 hT
    go_wp2
    go_ret
    exact ⟨rfl, bel.trans (b3.mono bel.size)⟩
  · have bel := B1.trans (b2.mono B1.size)
    have T2 := hT.below bel
    have ob2 := ob.below b2 lt1
    have g4 : w2.cell? ⟨w.heap.size + 1, 4, none⟩ = some (.slice oba obs.length obc) := ob2.at_ rfl
    by_cases t6 : 200 < obs.length
    · have d6 : decide (200 < (obs.length : Int)) = true := decide_eq_true (by omega)
      clear t6
      go_wp2_with fail
      refine (awake_calls w2 T2).mono ?_
      rintro e w3 ⟨rfl, b3⟩
      clear T2 hT
      go_wp2
      go_ret
      exact ⟨rfl, bel.trans (b3.mono bel.size)⟩
    have d6 : decide (200 < (obs.length : Int)) = false := decide_eq_false (by omega)
    go_wp2_with fail
    refine (on_next y w2 w1.heap.size hd).mono ?_
    rintro e w3 ⟨rfl, y3, h3, a3, d3, k3, f3⟩
    have b3 := b2.trans (k3.below (fun j _ hj => (hd.foot_lt hj).1) b2.size)
    have hwp3 : y3.wp.length ≤ 400 := by
      have := (goes_on y.abs).wait
      rw [wlen, a3]
      rw [wlen] at hwp
      omega
    have hlp3 : y3.lp.length = y.lp.length := by
      have e1 : y3.abs.last.length = y3.lp.length := by simp [Lay.abs]
      have e2 : y.abs.last.length = y.lp.length := by simp [Lay.abs]
      rw [← e1, a3, (goes_on y.abs).last, e2]
    have hsz3 : y3.size = y.size := by
      have e1 : y3.abs.size = y3.size := rfl
      rw [← e1, a3]
      rfl
    clear d6 g4 ob2 bel T2
    rw [← d3]
    have HZS := Lib.hid hzs
    have HZZ := Lib.hid hzz
    have HLP := Lib.hid hlp3
    have HSZ := Lib.hid hsz3
    have hoff : y3.abs.off = false := by rw [a3]; rfl
    have HOFF := Lib.hid hoff
    clear hzs hzz hlp3 hsz3 a3 hoff d3
    go_wp2_with fail
    refine (told_calls y3 w3 w1.heap.size h3).mono ?_
    rintro e w4 ⟨v4, rfl, o4, c4⟩
    have h4 := h3.below c4
    have b4 := b3.trans (c4.mono b3.size)
    have bel := B1.trans (b4.mono B1.size)
    have T4 := hT.below bel
    have ob4 := ob.below b4 lt1
    have g1 : w4.cell? ⟨w.heap.size + 1, 1, none⟩ = some (.int .i64 oat) := ob4.at_ rfl
    have g2 : w4.cell? ⟨w.heap.size + 1, 2, none⟩ = some (.int .u8 (oty.toNat : Int)) := ob4.at_ rfl
    have g3 : w4.cell? ⟨w.heap.size + 1, 3, none⟩ = some (.int .i64 omk) := ob4.at_ rfl
    have g4 : w4.cell? ⟨w.heap.size + 1, 4, none⟩ = some (.slice oba obs.length obc) := ob4.at_ rfl
    have RBS : RVF w4 y3.foot oba (cB obs) := rvf_in ho.rb bel h4 (by omega)
    have P := pput_calls y3 oat oty omk obs oba obc w4 w1.heap.size h4 T4 b4.size RBS obl obcc (by omega) (by omega)
    have nf4 : ∀ k, v4.ownBlock = some k → ¬ y3.foot k := fun k hk hf => by have := (h3.foot_lt hf).2; have := (o4.lt k hk).1; omega
    obtain ⟨g4b, cap4, hv4, hg4, hgl4⟩ := told_blk o4 h3.l1
    have gs := goes_put y3.abs oat oty omk obs
    have HL3 : Hid (y3.abs.last.length = y3.lp.length) := by show _ = _; simp [Lay.abs]
    clear RBS ob4 k3 f3 b2 hd
    go_wp2_with fail
    refine P.mono ?_
    clear P
    rintro e w5 ⟨rfl, y5, h5, a5, d5, k5, f5⟩
    have b5 := b4.trans (k5.below (fun j _ hj => (h4.foot_lt hj).1) b4.size)
    have o5 := own_frame o4 (fun k hk => k5.block k (o4.lt k hk).2 (nf4 k hk))
    rw [← d5]
    have hl5 : y5.lp.length = y3.lp.length := by
      have e1 : y5.abs.last.length = y5.lp.length := by simp [Lay.abs]
      rw [← e1, a5, gs.last, HL3.out]
    have hTD := told_calls y5 w5 w1.heap.size h5
    rw [a5, hl5] at hTD
    have HL5 := Lib.hid hl5
    clear hl5 d5 a5 k5 f5 nf4 gs o4 c4
    go_wp2_with fail
    refine hTD.mono ?_
    clear hTD
    rintro e w6 ⟨v6, rfl, o6, c6⟩
    obtain ⟨g6b, cap6, hv6, hg6, hgl6⟩ := told_blk o6 (by rw [← HL5.out]; exact h5.l1)
    have o5' := own_below o5 c6 (fun k hk => (o5.lt k hk).2)
    have b6 := b5.trans (c6.mono b5.size)
    subst hv4
    subst hv6
    have ob6 := ob.below b6 lt1
    have cb6 := cb.below b6 (by omega)
    have g1 : w6.cell? ⟨w.heap.size + 1, 1, none⟩ = some (.int .i64 oat) := ob6.at_ rfl
    have g2 : w6.cell? ⟨w.heap.size + 1, 2, none⟩ = some (.int .u8 (oty.toNat : Int)) := ob6.at_ rfl
    have g3 : w6.cell? ⟨w.heap.size + 1, 3, none⟩ = some (.int .i64 omk) := ob6.at_ rfl
    have g4 : w6.cell? ⟨w.heap.size + 1, 4, none⟩ = some (.slice oba obs.length obc) := ob6.at_ rfl
    have z1 : w6.cell? ⟨w.heap.size, 0, none⟩ = some (.int .i64 (y3.lp.length : Int)) := by rw [HLP.out]; rw [← HZS.out] at cb6; exact cb6.at_ rfl
    have z2 : w6.cell? ⟨w.heap.size, 1, none⟩ = some (.int .i64 (y3.size : Int)) := by rw [HSZ.out]; rw [← HZZ.out] at cb6; exact cb6.at_ rfl
    have RN := rneed_calls (y3.size : Int) (obs.length : Int) w6
    go_wp2_with fail
    refine RN.mono ?_
    clear RN
    rintro e w7 ⟨rfl, rfl⟩
    have hEN : (putE y3.abs oat oty obs.length = 1 ∧ putN y3.abs oat oty obs.length = 0 ∧ (oat < 0 ∨ (y3.lp.length : Int) ≤ oat ∨ oty = 0)) ∨
        (putE y3.abs oat oty obs.length = 5 ∧ putN y3.abs oat oty obs.length = 0 ∧ 0 ≤ oat ∧ oat < (y3.lp.length : Int) ∧ oty ≠ 0 ∧ (need y3.size obs.length < 1 ∨ (y3.lp.length : Int) < oat + need y3.size obs.length)) ∨
        (putE y3.abs oat oty obs.length = 0 ∧ putN y3.abs oat oty obs.length = need y3.size obs.length ∧ 0 ≤ oat ∧ oat < (y3.lp.length : Int) ∧ oty ≠ 0 ∧ 1 ≤ need y3.size obs.length ∧ oat + need y3.size obs.length ≤ (y3.lp.length : Int)) := by
      have := put_ways y3.abs oat oty obs.length HOFF.out
      rw [HL3.out] at this
      exact this
    have hnb : need y3.size obs.length ≤ 1073741824 ∧ 0 ≤ need y3.size obs.length := need_bnd _ _
    obtain ⟨E, hE⟩ : ∃ E, putE y3.abs oat oty obs.length = E := ⟨_, rfl⟩
    obtain ⟨N, hN⟩ : ∃ N, putN y3.abs oat oty obs.length = N := ⟨_, rfl⟩
    rw [hE, hN] at hEN
    rw [hE, hN]
    have HEE := Lib.hid hE
    have HNN := Lib.hid hN
    clear hE hN
    obtain ⟨Nd, hNd⟩ : ∃ Nd, need y3.size obs.length = Nd := ⟨_, rfl⟩
    rw [hNd] at hEN hnb
    rw [hNd]
    have HND := Lib.hid hNd
    clear hNd
    obtain ⟨hnb1, hnb2⟩ := hnb
    have oa1 := ho.a1
    have oa2 := ho.a2
    have hl12 : y3.lp.length ≤ 12 := by rw [HLP.out]; exact h12
    simp only at oa1 oa2
    have hgl6 : g6b < w6.heap.size := hgl6
    go_upto_block 0 with fail
    go_cut [11, 12] from 51 to 79 (fun a b wx => a = .int .i64 E ∧ b = .int .i64 N ∧ wx = w6)
    case first =>
      rcases hEN with ⟨rfl, rfl, h⟩ | ⟨rfl, rfl, h1, h2, h3, h⟩ | ⟨rfl, rfl, h1, h2, h3, h4, h5⟩
      · by_cases k1 : oat < 0
        · have d1 : decide (oat < 0) = true := decide_eq_true k1
          clear h
          go_wp2_with fail
          go_meet
          exact ⟨rfl, rfl, rfl⟩
        · have d1 : decide (oat < 0) = false := decide_eq_false k1
          by_cases k2 : (y3.lp.length : Int) ≤ oat
          · have d2 : decide ((y3.lp.length : Int) ≤ oat) = true := decide_eq_true k2
            clear h
            go_wp2_with fail
            go_meet
            exact ⟨rfl, rfl, rfl⟩
          · have d2 : decide ((y3.lp.length : Int) ≤ oat) = false := decide_eq_false k2
            have hk : oty = 0 := by rcases h with h | h | h; exact absurd h k1; exact absurd h k2; exact h
            have d3 : ((oty.toNat : Int) == 0) = true := by rw [hk]; rfl
            clear h hk
            go_wp2_with fail
            go_meet
            exact ⟨rfl, rfl, rfl⟩
      · have d1 : decide (oat < 0) = false := decide_eq_false (by omega)
        have d2 : decide ((y3.lp.length : Int) ≤ oat) = false := decide_eq_false (by omega)
        have d3 := kind_ne h3
        by_cases k1 : Nd < 1
        · have d4 : decide (Nd < 1) = true := decide_eq_true k1
          clear h h3
          go_wp2_with fail
          go_meet
          exact ⟨rfl, rfl, rfl⟩
        · have d4 : decide (Nd < 1) = false := decide_eq_false k1
          have d5 : decide ((y3.lp.length : Int) < oat + Nd) = true := decide_eq_true (by omega)
          clear h h3
          go_wp2_with fail
          go_meet
          exact ⟨rfl, rfl, rfl⟩
      · have d1 : decide (oat < 0) = false := decide_eq_false (by omega)
        have d2 : decide ((y3.lp.length : Int) ≤ oat) = false := decide_eq_false (by omega)
        have d3 := kind_ne h3
        have d4 : decide (N < 1) = false := decide_eq_false (by omega)
        have d5 : decide ((y3.lp.length : Int) < oat + N) = false := decide_eq_false (by omega)
        clear h3
        go_wp2_with fail
        go_meet
        exact ⟨rfl, rfl, rfl⟩
    case rest =>
      obtain ⟨rfl, rfl, rfl⟩ := hcut
      obtain ⟨w6, rfl⟩ : ∃ x : World, x = wc := ⟨_, rfl⟩
      have HKEY : Hid (∀ k : Nat, k < y3.lp.length → ((oat ≤ (k : Int) ∧ (k : Int) < oat + N) → ∃ i : Nat, (k : Int) - oat = (i : Int) ∧ (putS y3.abs oat oty omk obs).readE (k : Int) = 0 ∧ (putS y3.abs oat oty omk obs).readL (k : Int) = sect y3.size oty omk (obs.drop (i * (y3.size - 18))) (i == 0) ∧ i * (y3.size - 18) ≤ obs.length ∧ 19 ≤ y3.size ∧ y3.size ≤ 4096 ∧ obs.length ≤ 1073741824) ∧
          (¬ (oat ≤ (k : Int) ∧ (k : Int) < oat + N) → (putS y3.abs oat oty omk obs).readE (k : Int) = y3.abs.readE (k : Int) ∧ (putS y3.abs oat oty omk obs).readL (k : Int) = y3.abs.readL (k : Int))) := fun k hk => by
        have := puts_key y3.abs oat oty omk obs HOFF.out k (by rw [HL3.out]; exact hk)
        rw [HNN.out] at this
        exact this
      have hb1 : -9223372036854775808 ≤ oat + N ∧ oat + N ≤ 9223372036854775807 := by rcases hEN with h | h | h <;> omega
      obtain ⟨hb1, hb2⟩ := hb1
      have hNb : N ≤ 1073741824 := by rcases hEN with h | h | h <;> omega
      generalize putS y3.abs oat oty omk obs = SS at *
      clear hEN
      go_wp2
      clear g1 g2 g3 g4 z1 z2
      have bel6 := B1.trans (b6.mono B1.size)
      go_loopw [97] (fun i wr => ∃ k : Nat, k ≤ y3.lp.length ∧ i = .int .i64 (k : Int) ∧ Below w6.heap.size w6 wr) (fun i _ => y3.lp.length - (intOf i).toNat)
      case atStart => exact ⟨0, by omega, rfl, Below.refl _ _⟩
      case round =>
        obtain ⟨k, hk, rfl, bel⟩ := hrel
        by_cases hlt : k < y3.lp.length
        · have dk : decide ((k : Int) < (y3.lp.length : Int)) = true := decide_eq_true (by omega)
          have o5r := own_below o5' bel (fun j hj => (o5'.lt j hj).2)
          have s12 := told_at o5r k hlt
          obtain ⟨s1, s2⟩ := s12
          obtain ⟨key1, key2⟩ := HKEY.out k hlt
          have belr := bel6.trans (bel.mono bel6.size)
          clear o5r
          go_wp2_with ((with_reducible show wpList _ _ _ (⟨some 105, _, _, _, _, _⟩ :: _) _ _); refine wpList_abs (fun w8 => Blk w8 wr.heap.size 48 #[.string (bstr (y3.abs.readL (k : Int))), .int .i64 (y3.abs.readE (k : Int))] ∧ Below wr.heap.size wr w8) (⟨Blk.new wr _ _, (Below.refl _ _).alloc (Nat.le_refl _) _⟩) ?_)
          rintro w8 ⟨xb, b8⟩
          clear s1 s2
          have bel8 := bel.trans (b8.mono bel.size)
          have belw8 := belr.trans (b8.mono belr.size)
          have obr := ob6.below bel8 ob6.lt
          have cbr := cb6.below bel8 cb6.lt
          have o6r := own_below o6 bel8 (fun j hj => (o6.lt j hj).2)
          have t12 := told_at o6r k hlt
          obtain ⟨t1, t2⟩ := t12
          have g1 : w8.cell? ⟨w.heap.size + 1, 1, none⟩ = some (.int .i64 oat) := obr.at_ rfl
          have g2 : w8.cell? ⟨w.heap.size + 1, 2, none⟩ = some (.int .u8 (oty.toNat : Int)) := obr.at_ rfl
          have g3 : w8.cell? ⟨w.heap.size + 1, 3, none⟩ = some (.int .i64 omk) := obr.at_ rfl
          have g4 : w8.cell? ⟨w.heap.size + 1, 4, none⟩ = some (.slice oba obs.length obc) := obr.at_ rfl
          have zz2 : w8.cell? ⟨w.heap.size, 1, none⟩ = some (.int .i64 (y3.size : Int)) := by rw [HSZ.out]; rw [← HZZ.out] at cbr; exact cbr.at_ rfl
          have x0 : w8.cell? ⟨wr.heap.size, 0, none⟩ = some (.string (bstr (y3.abs.readL (k : Int)))) := xb.at_ rfl
          have x1 : w8.cell? ⟨wr.heap.size, 1, none⟩ = some (.int .i64 (y3.abs.readE (k : Int))) := xb.at_ rfl
          have xf0 := xb.frozen 0
          have xf1 := xb.frozen 1
          clear cbr
          by_cases hin : oat ≤ (k : Int) ∧ (k : Int) < oat + N
          · obtain ⟨i, hki, e1, e2, e3, e4, e5, e6⟩ := key1 hin
            rw [e1] at t2
            rw [e2] at t1
            have d1 : decide (oat ≤ (k : Int)) = true := decide_eq_true hin.1
            have d2 : decide ((k : Int) < oat + N) = true := decide_eq_true hin.2
            have cvo := run_str w8 _ _ _ Tryd.underlying27 Tryd.underlying5 Tryd.underlying9 oba obs obs.length obc (ho.rb.below belw8) rfl
            have SEC := rsector_calls y3.size oty omk obs i w8 e4 e5 e3 e6
            generalize sect y3.size oty omk (obs.drop (i * (y3.size - 18))) (i == 0) = SC at *
            generalize y3.abs.readL (k : Int) = LL at *
            generalize y3.abs.readE (k : Int) = EE at *
            have HKI : Hid (wrap64 ((k : Int) - oat) = (i : Int)) := by
              show _ = _
              have := hin.2
              unfold wrap64
              omega
            clear key1 key2 hin e1 e2 e3 e4 e5 e6 hki
            go_wp2_with fail
            rw [HKI.out]
            refine SEC.mono ?_
            clear SEC
            rintro e w9 ⟨rfl, b9⟩
            have xb9 := xb.below b9 xb.lt
            have bel9 := bel8.trans (b9.mono bel8.size)
            have y0 : w9.cell? ⟨wr.heap.size, 0, none⟩ = some (.string (bstr LL)) := xb9.at_ rfl
            have y1 : w9.cell? ⟨wr.heap.size, 1, none⟩ = some (.int .i64 EE) := xb9.at_ rfl
            have yf0 := xb9.frozen 0
            have yf1 := xb9.frozen 1
            have gl : g6b < w8.heap.size := by
              have := bel8.size
              omega
            have t1' : w9.cell? ⟨g6b, k * 2, none⟩ = some (.string (bstr SC)) := (b9.cell (p := ⟨g6b, k * 2, none⟩) gl).trans t1
            have t2' : w9.cell? ⟨g6b, k * 2 + 1, none⟩ = some (.int .i64 0) := (b9.cell (p := ⟨g6b, k * 2 + 1, none⟩) gl).trans t2
            have hne : g6b ≠ wr.heap.size := by
              have := bel.size
              omega
            have BF := Lib.hid ((bel9.setCell (p := ⟨wr.heap.size, 0, none⟩) bel.size (.string (bstr SC))).setCell (p := ⟨wr.heap.size, 1, none⟩) bel.size (.int .i64 0))
            clear o6r obr xb cvo x0 x1 xf0 xf1 t1 t2 g1 g2 g3 g4 zz2 xb9
            go_wp2_with fail
            go_quiet (fail)
            go_wp2
            go_roundw
            case rel => exact ⟨k + 1, by omega, by go_num, ⟨BF.out.os, BF.out.tape, BF.out.output, BF.out.size, BF.out.block⟩⟩
            case measure => simp [intOf]; omega
          · obtain ⟨e1, e2⟩ := key2 hin
            rw [e1] at t2
            rw [e2] at t1
            have dd : decide (oat ≤ (k : Int)) = false ∨ (decide (oat ≤ (k : Int)) = true ∧ decide ((k : Int) < oat + N) = false) := by
              by_cases h : oat ≤ (k : Int)
              · exact .inr ⟨decide_eq_true h, decide_eq_false (fun h2 => hin ⟨h, h2⟩)⟩
              · exact .inl (decide_eq_false h)
            generalize y3.abs.readL (k : Int) = LL at *
            generalize y3.abs.readE (k : Int) = EE at *
            clear key1 key2 hin e1 e2 o6r obr xb
            rcases dd with d1 | ⟨d1, d2⟩
            all_goals
              go_wp2_with fail
              go_quiet (fail)
              go_wp2
              go_roundw
              case rel => exact ⟨k + 1, by omega, by go_num, ⟨bel8.os, bel8.tape, bel8.output, bel8.size, bel8.block⟩⟩
              case measure => simp [intOf]; omega
        · obtain rfl : k = y3.lp.length := by omega
          have belr := bel6.trans (bel.mono bel6.size)
          have TR := hT.below belr
          clear o5' o6 ob6 cb6
          go_wp2_with fail
          refine (awake_calls wr TR).mono ?_
          rintro e w9 ⟨rfl, b9⟩
          clear TR hT
          go_wp2
          go_ret
          exact ⟨rfl, belr.trans (b9.mono belr.size)⟩
end Go.Proofs.YtfdecpmdicnfbaaDoor
