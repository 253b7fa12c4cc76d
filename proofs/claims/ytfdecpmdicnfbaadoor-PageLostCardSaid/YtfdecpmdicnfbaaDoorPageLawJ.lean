/-
  The walk of the statement PageLost: it returns true and changes nothing that was there.
-/
import Derived.Test.YtfdecpmdicnfbaaDoorPageLawG
import Derived.Test.YtfdecpmdicnfbaaDoorPageOpen
import Derived.Test.YtfdecpmdicnfbaaDoorPageLawE
import Derived.Test.YtfdecpmdicnfbaaDoorPageLawI
import Derived.BigQuiet
import Derived.Deep.QuietTactic
import Derived.Deep.CutRange
import Derived.Deep.CutBlock
namespace Go.Proofs.YtfdecpmdicnfbaaDoor
open Go.RowKit DiskP SumP PageP

/-- None of the first k sectors is one of a record of that mark. -/
def NoMark (d : Dsk) (mark : Int) (k : Nat) : Prop := ∀ i, i < k → d.readE (i : Int) = 0 → ∀ x, rd (d.readL (i : Int)) = some x → x.mark ≠ mark
theorem NoMark.zero (d : Dsk) (mark : Int) : NoMark d mark 0 := fun i hi => absurd hi (by omega)
theorem NoMark.next {d : Dsk} {mark : Int} {k : Nat} (h : NoMark d mark k) (hk : d.readE (k : Int) = 0 → ∀ x, rd (d.readL (k : Int)) = some x → x.mark ≠ mark) : NoMark d mark (k + 1) := fun i hi => by
  by_cases e : i = k
  · subst e; exact hk
  · exact h i (by omega)
theorem NoMark.hold {d : Dsk} {mark : Int} (h : NoMark d mark d.last.length) (ho : d.off = false) : ∀ (m : Nat) (l : List UInt8) (r : Bool) (x : Sec), d.told[m]? = some ⟨some l, r⟩ → rd l = some x → x.mark ≠ mark := by
  intro m l r x ht hr
  obtain ⟨h1, h2⟩ := read_told d m l r ht ho
  have hm : m < d.last.length := by rw [← told_len]; exact (List.getElem?_eq_some_iff.1 ht).1
  exact h m hm h1 x (by rw [h2]; exact hr)
theorem cut_lens (d : Dsk) (keep : List Bool) (torn : Int) : (d.cut keep torn).last.length = d.last.length := (goes_cut d keep torn).last
set_option maxHeartbeats 6400000 in
set_option maxRecDepth 100000 in
theorem pageLost_walk (z : CaseR) (o : OpR) (kp : List Bool) (A2 : Option Addr) (cap2 : Nat) (w : World) (hT : Tab w) (hz : CaseOK w z) (ho : OpOK w o) (hR2 : RV w A2 (cL kp)) (hkl : kp.length ≤ 9223372036854775807) :
    Calls Tryd.prog 8 #[.agg z.cells.toArray, .agg o.cells.toArray, .slice A2 kp.length cap2] w fun e w' => e = .returned (.bool true) ∧ Below w.heap.size w w' := by
  obtain ⟨okd, oat, oty, omk, obs, oba, obc, okp, oka, okc⟩ := o
  obtain ⟨zs, zz, l, la, lc⟩ := z
  have om1 := ho.m1
  have om2 := ho.m2
  have obl : obs.length ≤ obc := ho.bl
  have obcc : obc ≤ 9223372036854775807 := ho.bc
  simp only at om1 om2
  have cb := (Blk.new w 35 #[.int .i64 zs, .int .i64 zz, .slice la l.length lc]).alloc (.cells #[.int .u8 (okd.toNat : Int), .int .i64 oat, .int .u8 (oty.toNat : Int), .int .i64 omk, .slice oba obs.length obc, .slice oka okp.length okc] 46)
  have ob := Blk.new (w.alloc (.cells #[.int .i64 zs, .int .i64 zz, .slice la l.length lc] 35)) 46 #[.int .u8 (okd.toNat : Int), .int .i64 oat, .int .u8 (oty.toNat : Int), .int .i64 omk, .slice oba obs.length obc, .slice oka okp.length okc]
  have B1 : Below w.heap.size w ((w.alloc (.cells #[.int .i64 zs, .int .i64 zz, .slice la l.length lc] 35)).alloc (.cells #[.int .u8 (okd.toNat : Int), .int .i64 oat, .int .u8 (oty.toNat : Int), .int .i64 omk, .slice oba obs.length obc, .slice oka okp.length okc] 46)) := ((Below.refl _ _).alloc (Nat.le_refl _) _).alloc (by simp) _
  have hs1 : (w.alloc (.cells #[.int .i64 zs, .int .i64 zz, .slice la l.length lc] 35)).heap.size = w.heap.size + 1 := by simp
  rw [hs1] at ob
  show Calls Tryd.prog 8 #[.agg #[.int .i64 zs, .int .i64 zz, .slice la l.length lc], .agg #[.int .u8 (okd.toNat : Int), .int .i64 oat, .int .u8 (oty.toNat : Int), .int .i64 omk, .slice oba obs.length obc, .slice oka okp.length okc], .slice A2 kp.length cap2] w _
  have hg := hT.lt
  go_enter Tryd.func8, Tryd.ntmps8
  go_wp2_with fail
  clear hs1
  generalize ((w.alloc (.cells #[.int .i64 zs, .int .i64 zz, .slice la l.length lc] 35)).alloc (.cells #[.int .u8 (okd.toNat : Int), .int .i64 oat, .int .u8 (oty.toNat : Int), .int .i64 omk, .slice oba obs.length obc, .slice oka okp.length okc] 46)) = w1 at *
  have lt1 : w.heap.size + 1 < w1.heap.size := ob.lt
  refine (made_calls ⟨zs, zz, l, la, lc⟩ w1 (hT.below B1) (hz.below B1)).mono ?_
  rintro e w2 (⟨rfl, b2⟩ | ⟨y, rfl, hd, hzs, hzz, h12, h64, hwp, b2⟩)
  · have bel := B1.trans (b2.mono B1.size)
    have T2 := hT.below bel
    go_wp2_with fail
    refine (awake_calls w2 T2).mono ?_
    rintro e w3 ⟨rfl, b3⟩
    clear T2 hT
    go_wp2
    go_ret
    exact ⟨rfl, bel.trans (b3.mono bel.size)⟩
  · have bel := B1.trans (b2.mono B1.size)
    have T2 := hT.below bel
    have ob2 := ob.below b2 lt1
    have g4 : w2.cell? ⟨w.heap.size + 1, 4, none⟩ = some (.slice oba obs.length obc) := ob2.at_ rfl
    by_cases t6 : 200 < obs.length
    · have d6 : decide (200 < (obs.length : Int)) = true := decide_eq_true (by omega)
      clear t6
      go_wp2_with fail
      refine (awake_calls w2 T2).mono ?_
      rintro e w3 ⟨rfl, b3⟩
      clear T2 hT
      go_wp2
      go_ret
      exact ⟨rfl, bel.trans (b3.mono bel.size)⟩
    have d6 : decide (200 < (obs.length : Int)) = false := decide_eq_false (by omega)
    by_cases t7 : 12 < kp.length
    · have d7 : decide (12 < (kp.length : Int)) = true := decide_eq_true (by omega)
      clear t7
      go_wp2_with fail
      refine (awake_calls w2 T2).mono ?_
      rintro e w3 ⟨rfl, b3⟩
      clear T2 hT
      go_wp2
      go_ret
      exact ⟨rfl, bel.trans (b3.mono bel.size)⟩
    have d7 : decide (12 < (kp.length : Int)) = false := decide_eq_false (by omega)
    go_wp2_with fail
    refine (on_next y w2 w1.heap.size hd).mono ?_
    rintro e w3 ⟨rfl, y3, h3, a3, d3, k3, f3⟩
    have b3 := b2.trans (k3.below (fun j _ hj => (hd.foot_lt hj).1) b2.size)
    have hwp3 : y3.wp.length ≤ 400 := by
      have := (goes_on y.abs).wait
      rw [wlen, a3]
      rw [wlen] at hwp
      omega
    have hlp3 : y3.lp.length = y.lp.length := by
      have e1 : y3.abs.last.length = y3.lp.length := by simp [Lay.abs]
      have e2 : y.abs.last.length = y.lp.length := by simp [Lay.abs]
      rw [← e1, a3, (goes_on y.abs).last, e2]
    have hsz3 : y3.size = y.size := by
      have e1 : y3.abs.size = y3.size := rfl
      rw [← e1, a3]
      rfl
    rw [← d3]
    have HLP := Lib.hid hlp3
    clear hzs hzz hlp3 hsz3 d3 d6 d7 g4 ob2 bel T2
    have hoff3 : y3.abs.off = false := by rw [a3]; rfl
    have hfE : y3.abs.flushE = 0 := by unfold DiskP.Dsk.flushE; rw [hoff3]; rfl
    have hfS : y3.abs.flushS = y3.abs.flush := by unfold DiskP.Dsk.flushS; rw [hoff3]; rfl
    have FL := flush_calls y3 w3 w1.heap.size h3 (by omega)
    rw [hfE, hfS] at FL
    clear hfE hfS a3
    go_wp2_with fail
    refine FL.mono ?_
    clear FL
    rintro e w4 ⟨rfl, y4, h4, a4, d4, k4, f4⟩
    have b4 := b3.trans (k4.below (fun j _ hj => (h3.foot_lt hj).1) b3.size)
    rw [← d4]
    have hoff : y4.abs.off = false := by rw [a4]; exact hoff3
    have hwait : y4.abs.wait = [] := by rw [a4]; rfl
    have hl4 : y4.abs.last.length = y4.lp.length := by simp [Lay.abs]
    have hw4 : y4.wp.length = 0 := by rw [wlen, hwait]; rfl
    have HOFF := Lib.hid hoff
    have HWAIT := Lib.hid hwait
    have HL4 := Lib.hid hl4
    have HW4 := Lib.hid hw4
    clear hoff hwait hl4 hoff3 a4 d4 k4 f4 h3 hw4
    go_wp2_with fail
    refine (told_calls y4 w4 w1.heap.size h4).mono ?_
    rintro e w5 ⟨v5, rfl, o5, c5⟩
    have h5 := h4.below c5
    have b5 := b4.trans (c5.mono b4.size)
    obtain ⟨g5b, cap5, hv5, hg5, hgl5⟩ := told_blk o5 h4.l1
    subst hv5
    have NM0 := NoMark.zero y4.abs omk
    have hl2 := h4.l2
    clear c5 h4 b2 hd
    have bel5 := B1.trans (b5.mono B1.size)
    go_wp2
    go_loopw [46] (fun i wr => ∃ k : Nat, k ≤ y4.lp.length ∧ i = .int .i64 (k : Int) ∧ NoMark y4.abs omk k ∧ Below w5.heap.size w5 wr) (fun i _ => y4.lp.length - (intOf i).toNat)
    case atStart => exact ⟨0, by omega, rfl, NM0, Below.refl _ _⟩
    case round =>
      obtain ⟨k, hk, rfl, nm, bel⟩ := hrel
      by_cases hlt : k < y4.lp.length
      · have dk : decide ((k : Int) < (y4.lp.length : Int)) = true := decide_eq_true (by omega)
        have o5r := own_below o5 bel (fun j hj => (o5.lt j hj).2)
        have s12 := told_at o5r k hlt
        obtain ⟨s1, s2⟩ := s12
        have belr := bel5.trans (bel.mono bel5.size)
        have hRL := fun (hE : y4.abs.readE (k : Int) = 0) => read_len h5 hE
        have h5s := h5.s2
        clear o5r
        by_cases hE : y4.abs.readE (k : Int) = 0
        · have hL : (y4.abs.readL (k : Int)).length ≤ 4096 := by rw [hRL hE]; exact h5s
          have HNM : Hid (∀ mm : Int, (∀ x, rd (y4.abs.readL (k : Int)) = some x → mm = x.mark) → mm ≠ omk → NoMark y4.abs omk (k + 1)) := fun mm h1 h2 => nm.next (fun _ x hx => by rw [← h1 x hx]; exact h2)
          have HNN : Hid ((∀ x, rd (y4.abs.readL (k : Int)) = some x → False) → NoMark y4.abs omk (k + 1)) := fun h1 => nm.next (fun _ x hx => (h1 x hx).elim)
          rw [hE] at s2
          generalize y4.abs.readL (k : Int) = LL at *
          clear hE hRL nm
          go_wp2_with ((with_reducible show wpList _ _ _ (⟨some 50, _, _, _, _, _⟩ :: _) _ _); refine wpList_abs (fun w8 => Blk w8 wr.heap.size 48 #[.string (bstr LL), .int .i64 0] ∧ Below wr.heap.size wr w8) (⟨Blk.new wr _ _, (Below.refl _ _).alloc (Nat.le_refl _) _⟩) ?_)
          rintro w8 ⟨xb, b8⟩
          clear s1 s2
          have bel8 := bel.trans (b8.mono bel.size)
          have belw8 := belr.trans (b8.mono belr.size)
          have obr := ob.below (b5.trans (bel8.mono b5.size)) lt1
          have x0 : w8.cell? ⟨wr.heap.size, 0, none⟩ = some (.string (bstr LL)) := xb.at_ rfl
          have x1 : w8.cell? ⟨wr.heap.size, 1, none⟩ = some (.int .i64 0) := xb.at_ rfl
          go_wp2_with fail
          refine (ropen_calls LL w8 hL).mono ?_
          rintro e w9 ⟨⟨kk, mm, lf, ff, bb, ok, rfl, hop⟩, b9⟩
          have bel9 := bel8.trans (b9.mono bel8.size)
          have belw9 := belw8.trans (b9.mono belw8.size)
          have ob9 := obr.below b9 obr.lt
          have g3 : w9.cell? ⟨w.heap.size + 1, 3, none⟩ = some (.int .i64 omk) := ob9.at_ rfl
          have T9 := hT.below belw9
          clear x0 x1 xb obr
          cases ok with
          | true =>
            by_cases hm : mm = omk
            · have dm : ((mm : Int) == omk) = true := beq_iff_eq.2 hm
              clear hm hop HNM HNN
              go_wp2_with fail
              refine (awake_calls w9 T9).mono ?_
              rintro e w10 ⟨rfl, b10⟩
              clear T9 hT
              go_wp2
              go_ret
              exact ⟨rfl, belw9.trans (b10.mono belw9.size)⟩
            · have dm : ((mm : Int) == omk) = false := beq_eq_false_iff_ne.2 hm
              have HF := Lib.hid (HNM.out mm (fun x hx => (hop x hx).2) hm)
              clear hm hop HNM HNN T9
              go_wp2
              go_roundw
              case rel => exact ⟨k + 1, by omega, by go_num, HF.out, bel9⟩
              case measure => simp [intOf]; omega
          | false =>
            have HF := Lib.hid (HNN.out (fun x hx => absurd (hop x hx).1 (by decide)))
            clear hop HNM HNN T9
            go_wp2
            go_roundw
            case rel => exact ⟨k + 1, by omega, by go_num, HF.out, bel9⟩
            case measure => simp [intOf]; omega
        · have dE : (y4.abs.readE (k : Int) != 0) = true := by simpa using hE
          have HF := Lib.hid (nm.next (fun e => absurd e hE))
          generalize y4.abs.readL (k : Int) = LL at *
          generalize y4.abs.readE (k : Int) = EE at *
          clear hE hRL nm
          go_wp2_with ((with_reducible show wpList _ _ _ (⟨some 50, _, _, _, _, _⟩ :: _) _ _); refine wpList_abs (fun w8 => Blk w8 wr.heap.size 48 #[.string (bstr LL), .int .i64 EE] ∧ Below wr.heap.size wr w8) (⟨Blk.new wr _ _, (Below.refl _ _).alloc (Nat.le_refl _) _⟩) ?_)
          rintro w8 ⟨xb, b8⟩
          clear s1 s2
          have bel8 := bel.trans (b8.mono bel.size)
          have x1 : w8.cell? ⟨wr.heap.size, 1, none⟩ = some (.int .i64 EE) := xb.at_ rfl
          clear xb
          go_wp2
          go_roundw
          case rel => exact ⟨k + 1, by omega, by go_num, HF.out, bel8⟩
          case measure => simp [intOf]; omega
      · obtain rfl : k = y4.lp.length := by omega
        have belr := bel5.trans (bel.mono bel5.size)
        have hr := h5.below bel
        have br := b5.trans (bel.mono b5.size)
        have HOLD : Hid (∀ (m : Nat) (l : List UInt8) (r : Bool) (x : Sec), y4.abs.told[m]? = some ⟨some l, r⟩ → rd l = some x → x.mark ≠ omk) := NoMark.hold (by rw [HL4.out]; exact nm) HOFF.out
        have TR := hT.below belr
        have obr := ob.below br lt1
        clear nm NM0 o5 h5 b5 bel5 bel
        have g1 : wr.cell? ⟨w.heap.size + 1, 1, none⟩ = some (.int .i64 oat) := obr.at_ rfl
        have g2 : wr.cell? ⟨w.heap.size + 1, 2, none⟩ = some (.int .u8 (oty.toNat : Int)) := obr.at_ rfl
        have g3 : wr.cell? ⟨w.heap.size + 1, 3, none⟩ = some (.int .i64 omk) := obr.at_ rfl
        have g4 : wr.cell? ⟨w.heap.size + 1, 4, none⟩ = some (.slice oba obs.length obc) := obr.at_ rfl
        have RBS : RVF wr y4.foot oba (cB obs) := rvf_in ho.rb belr hr (by omega)
        have hw4 := HW4.out
        have P := pput_calls y4 oat oty omk obs oba obc wr w1.heap.size hr TR br.size RBS obl obcc (by omega) (by omega)
        clear RBS hw4
        by_cases hE : putE y4.abs oat oty obs.length = 0
        · obtain ⟨q1, q2, q3, q4, q5, q6⟩ := putE_zero hE
          obtain ⟨a, rfl⟩ := Int.eq_ofNat_of_zero_le q1
          have hz4 : y4.abs.size = y4.size := rfl
          obtain ⟨nn, en, en1, _⟩ := need_nat y4.size obs.length (by rw [← hz4]; exact q4)
          have hNN : putN y4.abs (a : Int) oty obs.length = (nn : Int) := by
            unfold putN
            rw [if_pos hE, hz4, en]
          have hSS : putS y4.abs (a : Int) oty omk obs = putD y4.abs a oty omk obs nn := by
            unfold putS
            rw [if_pos hE, hz4, en, Int.toNat_natCast, Int.toNat_natCast]
          have gs := goes_put y4.abs (a : Int) oty omk obs
          rw [hSS] at gs
          rw [hE, hNN, hSS] at P
          rw [hz4, en] at q5
          have GL := fun torn => get_lost y4.abs a oty omk obs nn kp torn q6 HWAIT.out (by omega) q3 om1 om2 (by rw [hz4]; exact en) en1 HOLD.out
          have HGL := Lib.hid GL
          generalize putD y4.abs a oty omk obs nn = SS at *
          have hll : y4.abs.last.length ≤ 65536 := by rw [HL4.out]; exact hr.l2
          have hw0 : y4.abs.wait.length = 0 := by rw [HWAIT.out]; rfl
          clear hE hNN hSS q1 q2 q4 q6 en en1 hz4 GL HOLD
          go_wp2_with fail
          refine P.mono ?_
          clear P
          rintro e w6 ⟨rfl, y6, h6, a6, d6, k6, f6⟩
          have b6 := br.trans (k6.below (fun j _ hj => (hr.foot_lt hj).1) br.size)
          rw [← d6]
          have bel6 := B1.trans (b6.mono B1.size)
          have ob6 := ob.below b6 lt1
          have g0 : w6.cell? ⟨w.heap.size + 1, 0, none⟩ = some (.int .u8 (okd.toNat : Int)) := ob6.at_ rfl
          have hw6 : y6.wp.length ≤ 1000000000 := by
            have := gs.wait
            rw [wlen, a6]
            omega
          have RK : RVF w6 y6.foot A2 (cL kp) := rvf_in hR2 bel6 h6 (by omega)
          have C := fun torn => cut_calls y6 kp A2 cap2 torn w6 w1.heap.size h6 hw6 hkl RK
          have ok255 := okd.toNat_lt
          have HA6 := Lib.hid a6
          clear RK hw6 gs hw0 hll k6 f6 d6 a6 g1 g2 g3 g4 obr TR
          go_wp2_with fail
          refine (C _).mono ?_
          clear C
          rintro e w7 ⟨rfl, y7, h7, a7, d7, k7, f7⟩
          have b7 := b6.trans (k7.below (fun j _ hj => (h6.foot_lt hj).1) b6.size)
          rw [← d7]
          obtain ⟨tt, ht7⟩ : ∃ tt, y7.abs = y6.abs.cut kp tt := ⟨_, a7⟩
          have HA7 := Lib.hid ht7
          clear ht7
          clear a7 d7 k7 f7 ob6 g0 h6 b6 bel6
          go_wp2_with fail
          refine (on_next y7 w7 w1.heap.size h7).mono ?_
          rintro e w8 ⟨rfl, y8, h8, a8, d8, k8, f8⟩
          have b8 := b7.trans (k8.below (fun j _ hj => (h7.foot_lt hj).1) b7.size)
          rw [← d8]
          have bel8 := B1.trans (b8.mono B1.size)
          have T8 := hT.below bel8
          have ob8 := ob.below b8 lt1
          have g1 : w8.cell? ⟨w.heap.size + 1, 1, none⟩ = some (.int .i64 (a : Int)) := ob8.at_ rfl
          have G := pget_calls y8 (a : Int) w8 w1.heap.size h8 T8
          have hgl := HGL.out tt
          rw [← HA6.out, ← HA7.out, ← a8] at hgl
          clear a8 d8 k8 f8 h7 b7 hr br HGL
          generalize getR y8.abs (a : Int) = RR at *
          obtain ⟨r0, r1, r2, r3, r4⟩ := RR
          unfold RetGet at G
          simp only at G hgl
          go_wp2_with fail
          refine G.mono ?_
          clear G
          rintro e w9 ⟨v9, rfl, o9, b9⟩
          have bel9 := bel8.trans (b9.mono bel8.size)
          have T9 := hT.below bel9
          have ob9 := ob8.below b9 ob8.lt
          have g2 : w9.cell? ⟨w.heap.size + 1, 2, none⟩ = some (.int .u8 (oty.toNat : Int)) := ob9.at_ rfl
          have g3 : w9.cell? ⟨w.heap.size + 1, 3, none⟩ = some (.int .i64 omk) := ob9.at_ rfl
          have g4 : w9.cell? ⟨w.heap.size + 1, 4, none⟩ = some (.slice oba obs.length obc) := ob9.at_ rfl
          clear g1 ob8 T8 b9 bel8
          by_cases hf : r0 = 0
          · have df : (r0 != 0) = false := by simpa using hf
            by_cases hm : r2 = omk
            · have hRR : r1 = oty ∧ r3 = obs ∧ r4 = (nn : Int) := by
                rcases hgl with h | h | h
                · exact absurd hf h
                · exact absurd hm h
                · simp only [Prod.mk.injEq] at h
                  exact ⟨h.2.1, h.2.2.2.1, h.2.2.2.2⟩
              obtain ⟨rfl, rfl, rfl⟩ := hRR
              subst hf
              subst hm
              obtain ⟨A9, c9, hv9, _, _⟩ := own_form o9
              have r9 : RB w9 A9 r3 := by rw [hv9] at o9; exact RV.of_own o9
              subst hv9
              have cv := run_str w9 _ _ _ Tryd.underlying27 Tryd.underlying5 Tryd.underlying9 A9 r3 r3.length c9 r9 rfl
              have cw := run_str w9 _ _ _ Tryd.underlying27 Tryd.underlying5 Tryd.underlying9 oba r3 r3.length obc (ho.rb.below bel9) rfl
              have eqs : ((bstr r3).toList == (bstr r3).toList) = true := beq_self_eq_true _
              clear hgl o9 r9 ob9 ho hz
              go_wp2_with fail
              refine (awake_calls w9 T9).mono ?_
              rintro e w10 ⟨rfl, b10⟩
              clear T9 hT cv cw
              go_wp2
              go_ret
              exact ⟨rfl, bel9.trans (b10.mono bel9.size)⟩
            · have dm : (r2 != omk) = true := by simpa using hm
              clear hgl o9 ob9 hm
              subst hf
              go_wp2_with fail
              refine (awake_calls w9 T9).mono ?_
              rintro e w10 ⟨rfl, b10⟩
              clear T9 hT
              go_wp2
              go_ret
              exact ⟨rfl, bel9.trans (b10.mono bel9.size)⟩
          · have df : (r0 != 0) = true := by simpa using hf
            clear hgl o9 ob9 hf
            go_wp2_with fail
            refine (awake_calls w9 T9).mono ?_
            rintro e w10 ⟨rfl, b10⟩
            clear T9 hT
            go_wp2
            go_ret
            exact ⟨rfl, bel9.trans (b10.mono bel9.size)⟩
        · have e0 : (putE y4.abs oat oty obs.length != 0) = true := by simpa using hE
          generalize putE y4.abs oat oty obs.length = E at *
          generalize putN y4.abs oat oty obs.length = N at *
          generalize putS y4.abs oat oty omk obs = SS at *
          clear hE
          go_wp2_with fail
          refine P.mono ?_
          clear P
          rintro e w6 ⟨rfl, y6, h6, a6, d6, k6, f6⟩
          have b6 := br.trans (k6.below (fun j _ hj => (hr.foot_lt hj).1) br.size)
          have bel6 := B1.trans (b6.mono B1.size)
          have T6 := hT.below bel6
          clear k6 f6 h6 d6 a6 TR obr
          go_wp2_with fail
          refine (awake_calls _ T6).mono ?_
          rintro e w7 ⟨rfl, b7⟩
          clear T6 hT
          go_wp2
          go_ret
          exact ⟨rfl, bel6.trans (b7.mono bel6.size)⟩
end Go.Proofs.YtfdecpmdicnfbaaDoor
