/-
  The walk of the statements' made, whole.
-/
import Derived.Test.YtfdecpmdicnfbaaDoorPageMade
namespace Go.Proofs.YtfdecpmdicnfbaaDoor
open Go.RowKit DiskP SumP PageP

theorem rvf_in {w w2 : World} {base : Nat} {y : Lay} {A : Option Addr} {vs : List Value} (h : RV w A vs) (hb : Below w.heap.size w w2) (hd : DiskOK w2 base y) (hw : w.heap.size ≤ base) : RVF w2 y.foot A vs := by
  intro hne
  obtain ⟨b, off, e, h1, h2⟩ := h hne
  exact ⟨b, off, e, Nat.lt_of_lt_of_le h1 hb.size, fun hf => by have := (hd.foot_lt hf).1; omega, fun j v hj => by rw [hb.cell (p := ⟨b, off + j, none⟩) h1]; exact h2 j v hj⟩
theorem six (q : Nat) (j : Nat) (x : Int) (hx : x = (q : Int)) (h : q ≠ j) : (x == (j : Int)) = false := by subst hx; simp; omega
set_option maxHeartbeats 6400000 in
set_option maxRecDepth 100000 in
theorem made_calls (z : CaseR) (w : World) (hT : Tab w) (hz : CaseOK w z) : Calls Tryd.prog 17 #[.agg z.cells.toArray] w (RetMade w z) := by
  obtain ⟨zs, zz, l, la, lc⟩ := z
  have hll := hz.ll
  have hrv := hz.rv
  have hok := hz.ok
  have hs1 := hz.s1
  have hs2 := hz.s2
  have hz1 := hz.z1
  have hz2 := hz.z2
  simp only at hll hrv hok hs1 hs2 hz1 hz2
  clear hz
  have NO : Hid (∀ w', Below w.heap.size w w' → RetMade w ⟨zs, zz, l, la, lc⟩ (.returned (.pointer none)) w') := fun w' hb => .inl ⟨rfl, hb⟩
  have cb := Blk.new w 35 #[.int .i64 zs, .int .i64 zz, .slice la l.length lc]
  have B1 : Below w.heap.size w (w.alloc (.cells #[.int .i64 zs, .int .i64 zz, .slice la l.length lc] 35)) := (Below.refl _ _).alloc (Nat.le_refl _) _
  show Calls Tryd.prog 17 #[.agg #[.int .i64 zs, .int .i64 zz, .slice la l.length lc]] w _
  by_cases t1 : zs < 1
  · have d1 : decide (zs < 1) = true := decide_eq_true t1
    clear t1
    go_enter Tryd.func17, Tryd.ntmps17
    go_wp2
    go_ret
    exact NO.out _ B1
  have d1 : decide (zs < 1) = false := decide_eq_false t1
  by_cases t2 : 12 < zs
  · have d2 : decide (12 < zs) = true := decide_eq_true t2
    go_enter Tryd.func17, Tryd.ntmps17
    go_wp2
    go_ret
    exact NO.out _ B1
  have d2 : decide (12 < zs) = false := decide_eq_false t2
  by_cases t3 : zz < 16
  · have d3 : decide (zz < 16) = true := decide_eq_true t3
    go_enter Tryd.func17, Tryd.ntmps17
    go_wp2
    go_ret
    exact NO.out _ B1
  have d3 : decide (zz < 16) = false := decide_eq_false t3
  by_cases t4 : 64 < zz
  · have d4 : decide (64 < zz) = true := decide_eq_true t4
    go_enter Tryd.func17, Tryd.ntmps17
    go_wp2
    go_ret
    exact NO.out _ B1
  have d4 : decide (64 < zz) = false := decide_eq_false t4
  by_cases t5 : 30 < l.length
  · have d5 : decide (30 < (l.length : Int)) = true := decide_eq_true (by omega)
    go_enter Tryd.func17, Tryd.ntmps17
    go_wp2
    go_ret
    exact NO.out _ B1
  have d5 : decide (30 < (l.length : Int)) = false := decide_eq_false (by omega)
  obtain ⟨n, rfl⟩ := Int.eq_ofNat_of_zero_le (show 0 ≤ zs by omega)
  obtain ⟨m, rfl⟩ := Int.eq_ofNat_of_zero_le (show 0 ≤ zz by omega)
  have hg := hT.lt
  have hw1s : w.heap.size < (w.alloc (.cells #[.int .i64 (n : Int), .int .i64 (m : Int), .slice la l.length lc] 35)).heap.size := cb.lt
  have NEW := new_calls n m (w.alloc (.cells #[.int .i64 (n : Int), .int .i64 (m : Int), .slice la l.length lc] 35)) (by omega) (by omega) (by omega) (by omega)
  go_enter Tryd.func17, Tryd.ntmps17
  go_wp2_with fail
  generalize w.alloc (.cells #[.int .i64 (n : Int), .int .i64 (m : Int), .slice la l.length lc] 35) = w1 at *
  refine NEW.mono ?_
  rintro e w2 ⟨y0, rfl, h0, a0, ln0, sz0, b0⟩
  clear NEW
  have e0 : w2.cell? ⟨w.heap.size, 0, none⟩ = some (.int .i64 (n : Int)) := (cb.below b0 hw1s).at_ rfl
  have e1 : w2.cell? ⟨w.heap.size, 1, none⟩ = some (.int .i64 (m : Int)) := (cb.below b0 hw1s).at_ rfl
  have e2 : w2.cell? ⟨w.heap.size, 2, none⟩ = some (.slice la l.length lc) := (cb.below b0 hw1s).at_ rfl
  go_wp2
  go_loopw [46] (fun i wr => ∃ k : Nat, k ≤ l.length ∧ i = .int .i64 k ∧ DiskOK wr w1.heap.size y0 ∧ Below w1.heap.size w1 wr) (fun i _ => l.length - (intOf i).toNat)
  case atStart => exact ⟨0, by omega, rfl, h0, b0⟩
  case round =>
    obtain ⟨k, hk, rfl, hd, bel⟩ := hrel
    by_cases hlt : k < l.length
    · obtain ⟨o, ho⟩ : ∃ o, l[k]? = some o := ⟨_, List.getElem?_eq_getElem hlt⟩
      have ook := hok o (List.mem_of_getElem? ho)
      obtain ⟨b, off, rfl, hb, hc⟩ := hrv (by intro e; have := ops_get l k 0 (by omega); rw [e, ho] at this; simp [OpR.cells] at this)
      have hcc : ∀ i v, i < 6 → o.cells[i]? = some v → wr.cell? ⟨b, off + (k * 6 + i), none⟩ = some v := by
        intro i v hi hv
        have hbw : Below w.heap.size w wr := B1.trans (bel.mono (Nat.le_of_lt hw1s))
        rw [hbw.cell (p := ⟨b, off + (k * 6 + i), none⟩) hb]
        exact hc _ _ (by rw [ops_get l k i hi, ho]; exact hv)
      obtain ⟨okd, oat, oty, omk, obs, oba, obc, okp, oka, okc⟩ := o
      have q0 : wr.cell? ⟨b, off + k * 6, none⟩ = some (.int .u8 (okd.toNat : Int)) := hcc 0 _ (by omega) rfl
      have q1 : wr.cell? ⟨b, off + k * 6 + 1, none⟩ = some (.int .i64 oat) := by rw [Nat.add_assoc]; exact hcc 1 _ (by omega) rfl
      have q2 : wr.cell? ⟨b, off + k * 6 + 2, none⟩ = some (.int .u8 (oty.toNat : Int)) := by rw [Nat.add_assoc]; exact hcc 2 _ (by omega) rfl
      have q3 : wr.cell? ⟨b, off + k * 6 + 3, none⟩ = some (.int .i64 omk) := by rw [Nat.add_assoc]; exact hcc 3 _ (by omega) rfl
      have q4 : wr.cell? ⟨b, off + k * 6 + 4, none⟩ = some (.slice oba obs.length obc) := by rw [Nat.add_assoc]; exact hcc 4 _ (by omega) rfl
      have q5 : wr.cell? ⟨b, off + k * 6 + 5, none⟩ = some (.slice oka okp.length okc) := by rw [Nat.add_assoc]; exact hcc 5 _ (by omega) rfl
      have hdec : decide ((k : Int) < (l.length : Int)) = true := by simp; omega
      clear hcc hc
      clear hrv hok
      by_cases t6 : 200 < obs.length
      · have d6 : decide (200 < (obs.length : Int)) = true := decide_eq_true (by omega)
        have HE := NO.out _ ((B1.trans (bel.mono (Nat.le_of_lt hw1s))).alloc (B1.trans (bel.mono (Nat.le_of_lt hw1s))).size (.cells #[.int .u8 (okd.toNat : Int), .int .i64 oat, .int .u8 (oty.toNat : Int), .int .i64 omk, .slice oba obs.length obc, .slice oka okp.length okc] 46))
        have HE2 := Lib.hid HE
        clear HE t6
        go_wp2
        go_ret
        exact HE2.out
      · have d6 : decide (200 < (obs.length : Int)) = false := decide_eq_false (by omega)
        have H2 := Lib.hid (hd.below ((Below.refl _ _).alloc (Nat.le_refl _) (.cells #[.int .u8 (okd.toNat : Int), .int .i64 oat, .int .u8 (oty.toNat : Int), .int .i64 omk, .slice oba obs.length obc, .slice oka okp.length okc] 46)))
        have H3 := Lib.hid (bel.alloc bel.size (.cells #[.int .u8 (okd.toNat : Int), .int .i64 oat, .int .u8 (oty.toNat : Int), .int .i64 omk, .slice oba obs.length obc, .slice oka okp.length okc] 46))
        clear t6 hd
        go_wp2
        go_roundw
        case rel => exact ⟨k + 1, by omega, by go_num, H2.out, H3.out⟩
        case measure => simp [intOf]; omega
    · obtain rfl : k = l.length := by omega
      have e0 : wr.cell? ⟨w.heap.size, 0, none⟩ = some (.int .i64 (n : Int)) := (cb.below bel hw1s).at_ rfl
      have e1 : wr.cell? ⟨w.heap.size, 1, none⟩ = some (.int .i64 (m : Int)) := (cb.below bel hw1s).at_ rfl
      have e2 : wr.cell? ⟨w.heap.size, 2, none⟩ = some (.slice la l.length lc) := (cb.below bel hw1s).at_ rfl
      have M0 : Mading w1 y0.D n m 0 wr := ⟨y0, hd, rfl, ln0, sz0, by rw [wlen, a0]; exact Nat.zero_le _, bel⟩
      clear h0 b0 hd bel
      go_wp2
      clear e0 e1 e2
      clear a0 ln0 sz0
      go_loopw [60] (fun i wx => ∃ k : Nat, k ≤ l.length ∧ i = .int .i64 k ∧ Mading w1 y0.D n m k wx) (fun i _ => l.length - (intOf i).toNat)
      case atStart => exact ⟨0, by omega, rfl, M0⟩
      case round =>
        obtain ⟨k, hk, rfl, y, hd, hD, hn, hm, hwp, bel⟩ := hrel
        by_cases hlt : k < l.length
        · obtain ⟨o, ho⟩ : ∃ o, l[k]? = some o := ⟨_, List.getElem?_eq_getElem hlt⟩
          have ook := hok o (List.mem_of_getElem? ho)
          obtain ⟨b, off, rfl, hb, hc⟩ := hrv (by intro e; have := ops_get l k 0 (by omega); rw [e, ho] at this; simp [OpR.cells] at this)
          have hcc : ∀ i v, i < 6 → o.cells[i]? = some v → wr.cell? ⟨b, off + (k * 6 + i), none⟩ = some v := by
            intro i v hi hv
            have hbw : Below w.heap.size w wr := B1.trans (bel.mono (Nat.le_of_lt hw1s))
            rw [hbw.cell (p := ⟨b, off + (k * 6 + i), none⟩) hb]
            exact hc _ _ (by rw [ops_get l k i hi, ho]; exact hv)
          obtain ⟨okd, oat, oty, omk, obs, oba, obc, okp, oka, okc⟩ := o
          have q0 : wr.cell? ⟨b, off + k * 6, none⟩ = some (.int .u8 (okd.toNat : Int)) := hcc 0 _ (by omega) rfl
          have q1 : wr.cell? ⟨b, off + k * 6 + 1, none⟩ = some (.int .i64 oat) := by rw [Nat.add_assoc]; exact hcc 1 _ (by omega) rfl
          have q2 : wr.cell? ⟨b, off + k * 6 + 2, none⟩ = some (.int .u8 (oty.toNat : Int)) := by rw [Nat.add_assoc]; exact hcc 2 _ (by omega) rfl
          have q3 : wr.cell? ⟨b, off + k * 6 + 3, none⟩ = some (.int .i64 omk) := by rw [Nat.add_assoc]; exact hcc 3 _ (by omega) rfl
          have q4 : wr.cell? ⟨b, off + k * 6 + 4, none⟩ = some (.slice oba obs.length obc) := by rw [Nat.add_assoc]; exact hcc 4 _ (by omega) rfl
          have q5 : wr.cell? ⟨b, off + k * 6 + 5, none⟩ = some (.slice oka okp.length okc) := by rw [Nat.add_assoc]; exact hcc 5 _ (by omega) rfl
          have hdec : decide ((k : Int) < (l.length : Int)) = true := by simp; omega
          clear hcc hc
          clear hrv hok
          go_wp2_with ((with_reducible show wpList _ _ _ (⟨some 64, _, _, _, _, _⟩ :: _) _ _); refine wpList_abs (fun w2 => Blk w2 wr.heap.size 46 #[.int .u8 (okd.toNat : Int), .int .i64 oat, .int .u8 (oty.toNat : Int), .int .i64 omk, .slice oba obs.length obc, .slice oka okp.length okc] ∧ Below wr.heap.size wr w2) (⟨Blk.new wr _ _, (Below.refl _ _).alloc (Nat.le_refl _) _⟩) ?_)
          rintro w2 ⟨ob, b2⟩
          have g0 : w2.cell? ⟨wr.heap.size, 0, none⟩ = some (.int .u8 (okd.toNat : Int)) := ob.at_ rfl
          have g1 : w2.cell? ⟨wr.heap.size, 1, none⟩ = some (.int .i64 oat) := ob.at_ rfl
          have g2 : w2.cell? ⟨wr.heap.size, 2, none⟩ = some (.int .u8 (oty.toNat : Int)) := ob.at_ rfl
          have g3 : w2.cell? ⟨wr.heap.size, 3, none⟩ = some (.int .i64 omk) := ob.at_ rfl
          have g4 : w2.cell? ⟨wr.heap.size, 4, none⟩ = some (.slice oba obs.length obc) := ob.at_ rfl
          have g5 : w2.cell? ⟨wr.heap.size, 5, none⟩ = some (.slice oka okp.length okc) := ob.at_ rfl
          have c1 : w2.cell? ⟨w.heap.size, 1, none⟩ = some (.int .i64 (m : Int)) := (cb.below (bel.trans (b2.mono bel.size)) hw1s).at_ rfl
          clear q0 q1 q2 q3 q4 q5
          have H := hd.below b2
          have bel2 := bel.trans (b2.mono bel.size)
          have hBW := B1.trans (bel2.mono (Nat.le_of_lt hw1s))
          have T2 := hT.below hBW
          have hbl : obs.length ≤ obc := ook.bl
          have hbc : obc ≤ 9223372036854775807 := ook.bc
          have hkl : okp.length ≤ 9223372036854775807 := ook.kl
          have RBS : RVF w2 y.foot oba (cB obs) := rvf_in ook.rb hBW H (Nat.le_of_lt hw1s)
          have RKS : RVF w2 y.foot oka (cL okp) := rvf_in ook.rk hBW H (Nat.le_of_lt hw1s)
          have RB0 : RB w2 oba obs := RBS.rv
          have hl12 : y.abs.last.length ≤ 12 := by rw [show y.abs.last.length = y.lp.length by simp [Lay.abs]]; omega
          have NX := fun (S : Dsk) (g : Goes y.abs S 12) (w3 : World) (N : Next w2 w1.heap.size y S w3) => Mading.next (w1 := w1) H hD hn hm hwp bel2 N g
          have HNX := Lib.hid NX
          clear NX ook hBW b2 hd bel
          obtain ⟨q, hq⟩ : ∃ q : Nat, okd.toNat % 6 = q := ⟨_, rfl⟩
          have hq6 : q < 6 := by omega
          have hqi : (okd.toNat : Int) % 6 = (q : Int) := by omega
          have z0 := fun h => six q 0 _ hqi h
          have z1 := fun h => six q 1 _ hqi h
          have z2 := fun h => six q 2 _ hqi h
          have z3 := fun h => six q 3 _ hqi h
          have z4 := fun h => six q 4 _ hqi h
          have z5 := fun h => six q 5 _ hqi h
          rcases (show q = 0 ∨ q = 1 ∨ q = 2 ∨ q = 3 ∨ q = 4 ∨ q = 5 by omega) with rfl | rfl | rfl | rfl | rfl | rfl
          · have tk0 : ((okd.toNat : Int) % 6 == 0) = true := by rw [hqi]; rfl
            clear z0 z1 z2 z3 z4 z5 hqi hq
            have P := pput_calls y oat oty omk obs oba obc w2 w1.heap.size H T2 bel2.size RBS hbl hbc (by omega) (by omega)
            rw [hD] at P
            clear H bel2 T2 RBS RKS RB0 ob
            go_wp2_with fail
            refine P.mono ?_
            clear P
            rintro e w3 ⟨rfl, N⟩
            have HN := Lib.hid (HNX.out _ ((goes_put y.abs oat oty omk obs).mono hl12) _ N)
            clear N hD hn hm
            go_wp2
            go_roundw
            case rel => exact ⟨k + 1, by omega, by go_num, HN.out⟩
            case measure => simp [intOf]; omega
          · have tk0 : ((okd.toNat : Int) % 6 == 0) = false := z0 (by decide)
            have tk1 : ((okd.toNat : Int) % 6 == 1) = true := by rw [hqi]; rfl
            clear z0 z1 z2 z3 z4 z5 hqi hq
            have hmk := run_make_n el_u8 rfl m (by omega) (by omega)
            have HH := Lib.hid H
            have HT2 := Lib.hid T2
            have hm1 : 1 ≤ m := by omega
            have hm64 : m ≤ 64 := by omega
            have OB := Lib.hid ob
            clear H T2 RBS RKS ob
            go_wp2
            clear hmk
            have OWN0 : (w2.alloc (.cells (rep m (.int .u8 0)) 5)).ownsRow w2.heap.size 5 1 (.slice (some ⟨w2.heap.size, 0, none⟩) m m) m (cB (List.replicate m 0)) := by
              have := own_made w2 (base := w2.heap.size) 5 m (.int .u8 0) (Nat.le_refl _) (by unfold maxLen; omega)
              rw [show cB (List.replicate m 0) = List.replicate m (.int .u8 0) by simp [cB, byteV]]
              exact this
            obtain ⟨wo, rfl⟩ : ∃ wo : World, wo = wr := ⟨_, rfl⟩
            go_loopw [86] (fun i wz => ∃ (j : Nat) (bl : List UInt8), j ≤ m ∧ i = .int .i64 j ∧ bl.length = m ∧ wz.ownsRow w2.heap.size 5 1 (.slice (some ⟨w2.heap.size, 0, none⟩) m m) m (cB bl) ∧ Below w2.heap.size w2 wz) (fun i _ => m - (intOf i).toNat)
            case atStart => exact ⟨0, List.replicate m 0, by omega, rfl, by simp, OWN0, (Below.refl _ _).alloc (Nat.le_refl _) _⟩
            case round =>
              obtain ⟨j, bl, hj, rfl, hbll, own, bz⟩ := hrel
              have h4 : wr.cell? ⟨wo.heap.size, 4, none⟩ = some (.slice oba obs.length obc) := (OB.out.below bz OB.out.lt).at_ rfl
              by_cases hjl : j < m
              · have dj : decide ((j : Int) < (m : Int)) = true := decide_eq_true (by omega)
                by_cases he : obs.length = 0
                · have dl : decide (0 < (obs.length : Int)) = false := decide_eq_false (by omega)
                  have dl' : decide (0 < obs.length) = false := decide_eq_false (by omega)
                  have HOW := Lib.hid own
                  clear own he
                  go_wp2
                  go_roundw
                  case rel => exact ⟨j + 1, bl, by omega, by go_num, hbll, HOW.out, bz⟩
                  case measure => simp [intOf]; omega
                · have dl : decide (0 < (obs.length : Int)) = true := decide_eq_true (by omega)
                  have dl' : decide (0 < obs.length) = true := decide_eq_true (by omega)
                  have hlz : ((obs.length : Int) == 0) = false := by rw [beq_eq_false_iff_ne]; omega
                  obtain ⟨qq, hqq⟩ : ∃ qq : Nat, j % obs.length = qq := ⟨_, rfl⟩
                  have hqlt : qq < obs.length := by rw [← hqq]; exact Nat.mod_lt _ (by omega)
                  have HQ : (j : Int) % (obs.length : Int) = (qq : Int) := by rw [← Int.natCast_emod, hqq]
                  have hqi2 : (qq : Int) < (obs.length : Int) := by omega
                  obtain ⟨bo, oo, rfl, hbo, hco⟩ := (RB0.below bz).at_ hqlt
                  generalize obs[qq] = c at hco
                  have oc : ∃ v0, wr.cell? ⟨w2.heap.size, j, none⟩ = some v0 := by
                    have hlt2 : j < (cB bl).length := by rw [cB_len]; omega
                    exact ⟨(cB bl)[j], by rw [own.cellAt _ (by omega)]; exact List.getElem?_eq_getElem hlt2⟩
                  obtain ⟨v0, oc⟩ := oc
                  have hfz := own.frozenAt j
                  have HO := (own.stored j (.int .u8 (c.toNat : Int))).1
                  rw [show (cB bl).set j (.int .u8 (c.toNat : Int)) = cB (bl.set j c) by simp [cB, byteV]] at HO
                  have HOW := Lib.hid HO
                  clear HO own hqq
                  go_wp2
                  go_region
                  go_wp2
                  go_roundw
                  case rel => exact ⟨j + 1, bl.set j c, by omega, by go_num, by simp [hbll], HOW.out, (bz.setCell (Nat.le_refl _) _).drew⟩
                  case measure => simp [intOf]; omega
              · obtain rfl : j = m := by omega
                have h1 : wr.cell? ⟨wo.heap.size, 1, none⟩ = some (.int .i64 oat) := (OB.out.below bz OB.out.lt).at_ rfl
                have H' := HH.out.below bz
                have P := write_at y oat bl j (some ⟨w2.heap.size, 0, none⟩) j wr w1.heap.size H' (RV.of_own own) hbll (by omega) (by omega)
                rw [hD] at P
                have bel3 := bel2.trans (bz.mono bel2.size)
                have HNX2 := Lib.hid (fun (S : Dsk) (g : Goes y.abs S 12) (w3 : World) (N : Next wr w1.heap.size y S w3) => Mading.next (w1 := w1) H' hD hn hm hwp bel3 N g)
                clear H' own bel3 bz RB0
                go_wp2_with fail
                refine P.mono ?_
                clear P
                rintro e w3 ⟨rfl, N⟩
                have HN := Lib.hid (HNX2.out _ ((goes_write y.abs oat bl).mono (by omega)) _ N)
                clear N hD hn hm HNX2
                go_wp2
                go_roundw
                case rel => exact ⟨k + 1, by omega, by go_num, HN.out⟩
                case measure => simp [intOf]; omega
          · have tk0 : ((okd.toNat : Int) % 6 == 0) = false := z0 (by decide)
            have tk1 : ((okd.toNat : Int) % 6 == 1) = false := z1 (by decide)
            have tk2 : ((okd.toNat : Int) % 6 == 2) = true := by rw [hqi]; rfl
            clear z0 z1 z2 z3 z4 z5 hqi hq
            have P := flush_calls y w2 w1.heap.size H (by omega)
            rw [hD] at P
            clear H bel2 T2 RBS RKS RB0 ob
            go_wp2_with fail
            refine P.mono ?_
            clear P
            rintro e w3 ⟨rfl, N⟩
            have HN := Lib.hid (HNX.out _ ((goes_flush y.abs).mono (by omega)) _ N)
            clear N hD hn hm
            go_wp2
            go_roundw
            case rel => exact ⟨k + 1, by omega, by go_num, HN.out⟩
            case measure => simp [intOf]; omega
          · have tk0 : ((okd.toNat : Int) % 6 == 0) = false := z0 (by decide)
            have tk1 : ((okd.toNat : Int) % 6 == 1) = false := z1 (by decide)
            have tk2 : ((okd.toNat : Int) % 6 == 2) = false := z2 (by decide)
            have tk3 : ((okd.toNat : Int) % 6 == 3) = true := by rw [hqi]; rfl
            clear z0 z1 z2 z3 z4 z5 hqi hq
            have P := cut_calls y okp oka okc omk w2 w1.heap.size H (by omega) hkl RKS
            rw [hD] at P
            clear H bel2 T2 RBS RKS RB0 ob
            go_wp2_with fail
            refine P.mono ?_
            clear P
            rintro e w3 ⟨rfl, N⟩
            have HN := Lib.hid (HNX.out _ ((goes_cut y.abs okp omk).mono (by omega)) _ N)
            clear N hD hn hm
            go_wp2
            go_roundw
            case rel => exact ⟨k + 1, by omega, by go_num, HN.out⟩
            case measure => simp [intOf]; omega
          · have tk0 : ((okd.toNat : Int) % 6 == 0) = false := z0 (by decide)
            have tk1 : ((okd.toNat : Int) % 6 == 1) = false := z1 (by decide)
            have tk2 : ((okd.toNat : Int) % 6 == 2) = false := z2 (by decide)
            have tk3 : ((okd.toNat : Int) % 6 == 3) = false := z3 (by decide)
            have tk4 : ((okd.toNat : Int) % 6 == 4) = true := by rw [hqi]; rfl
            clear z0 z1 z2 z3 z4 z5 hqi hq
            have P := on_next y w2 w1.heap.size H
            rw [hD] at P
            clear H bel2 T2 RBS RKS RB0 ob
            go_wp2_with fail
            refine P.mono ?_
            clear P
            rintro e w3 ⟨rfl, N⟩
            have HN := Lib.hid (HNX.out _ ((goes_on y.abs).mono (by omega)) _ N)
            clear N hD hn hm
            go_wp2
            go_roundw
            case rel => exact ⟨k + 1, by omega, by go_num, HN.out⟩
            case measure => simp [intOf]; omega
          · have tk0 : ((okd.toNat : Int) % 6 == 0) = false := z0 (by decide)
            have tk1 : ((okd.toNat : Int) % 6 == 1) = false := z1 (by decide)
            have tk2 : ((okd.toNat : Int) % 6 == 2) = false := z2 (by decide)
            have tk3 : ((okd.toNat : Int) % 6 == 3) = false := z3 (by decide)
            have tk4 : ((okd.toNat : Int) % 6 == 4) = false := z4 (by decide)
            have tk5 : ((okd.toNat : Int) % 6 == 5) = true := by rw [hqi]; rfl
            clear z0 z1 z2 z3 z4 z5 hqi hq
            have P := rot_calls y oat omk w2 w1.heap.size H
            rw [hD] at P
            clear H bel2 T2 RBS RKS RB0 ob
            go_wp2_with fail
            refine P.mono ?_
            clear P
            rintro e w3 ⟨rfl, N⟩
            have HN := Lib.hid (HNX.out _ ((goes_rot y.abs oat omk).mono (by omega)) _ N)
            clear N hD hn hm
            go_wp2
            go_roundw
            case rel => exact ⟨k + 1, by omega, by go_num, HN.out⟩
            case measure => simp [intOf]; omega
        · obtain rfl : k = l.length := by omega
          have HE : Hid (RetMade w ⟨(n : Int), (m : Int), l, la, lc⟩ (.returned (.pointer (some ⟨y0.D, 0, none⟩))) wr) := .inr ⟨y, by rw [hD], hd.low (Nat.le_of_lt hw1s), by rw [hn], by rw [hm], by omega, by omega, by omega, B1.trans (bel.mono (Nat.le_of_lt hw1s))⟩
          clear hD hn hm
          go_wp2
          go_ret
          exact HE.out
end Go.Proofs.YtfdecpmdicnfbaaDoor
