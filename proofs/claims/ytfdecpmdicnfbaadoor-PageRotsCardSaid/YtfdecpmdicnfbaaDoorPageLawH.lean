/-
  The walk of the statement PageRots: it returns true and changes nothing that was there.
-/
import Derived.Test.YtfdecpmdicnfbaaDoorPageLawG
import Derived.Test.YtfdecpmdicnfbaaDoorPageLawD
import Derived.BigQuiet
import Derived.Deep.QuietTactic
import Derived.StillTailTactics
namespace Go.Proofs.YtfdecpmdicnfbaaDoor
open Go.RowKit DiskP SumP PageP

/-- A record stands there, with bits turned in some of its first k sectors; t of them. -/
def Turning (w1 : World) (D n m a : Nat) (kind : UInt8) (mark : Int) (b : List UInt8) (nn k : Nat) (t : Int) (wr : World) : Prop :=
  ∃ y T, DiskOK wr w1.heap.size y ∧ y.D = D ∧ y.lp.length = n ∧ y.size = m ∧ Rots y.abs a kind mark b nn T ∧ (∀ i, k ≤ i → T i = false) ∧ (t = 0 ↔ ∀ i, i < nn → T i = false) ∧ 0 ≤ t ∧ t ≤ k ∧ Below w1.heap.size w1 wr
theorem Turning.skip {w1 wr : World} {D n m a nn k : Nat} {kind : UInt8} {mark t : Int} {b : List UInt8} (h : Turning w1 D n m a kind mark b nn k t wr) {w3 : World} (hb : Below wr.heap.size wr w3) : Turning w1 D n m a kind mark b nn (k + 1) t w3 := by
  obtain ⟨y, T, h1, h2, h3, h4, h5, h6, h7, h8, h9, h10⟩ := h
  exact ⟨y, T, h1.below hb, h2, h3, h4, h5, fun i hi => h6 i (by omega), h7, h8, by omega, h10.trans (hb.mono h10.size)⟩
def u16V (n : Nat) : Value := .int .u16 (n : Int)
theorem Turning.rot {w1 wr w3 : World} {D n m a nn k q : Nat} {kind : UInt8} {mark t : Int} {b : List UInt8} {y : Lay} {T : Nat → Bool} (h1 : DiskOK wr w1.heap.size y) (h2 : y.D = D) (h3 : y.lp.length = n) (h4 : y.size = m) (h5 : Rots y.abs a kind mark b nn T)
    (h6 : ∀ i, k ≤ i → T i = false) (h7 : t = 0 ↔ ∀ i, i < nn → T i = false) (h8 : 0 ≤ t) (h9 : t ≤ k) (h10 : Below w1.heap.size w1 wr) (hk : k < nn) (hq : q < 8 * m) (N : Next wr w1.heap.size y (y.abs.rotS ((a : Int) + (k : Int)) (q : Int)) w3) :
    (y.abs.rotE ((a : Int) + (k : Int)) (q : Int) = 0 → Turning w1 D n m a kind mark b nn (k + 1) (t + 1) w3) ∧ (y.abs.rotE ((a : Int) + (k : Int)) (q : Int) ≠ 0 → Turning w1 D n m a kind mark b nn (k + 1) t w3) := by
  obtain ⟨y', h', a', d', k', f'⟩ := N
  have hl' : y'.lp.length = n := by
    have e1 : y'.abs.last.length = y'.lp.length := by simp [Lay.abs]
    have e2 : y.abs.last.length = y.lp.length := by simp [Lay.abs]
    rw [← e1, a', (goes_rot y.abs _ _).last, e2, h3]
  have hs' : y'.size = m := by
    have e1 : y'.abs.size = y'.size := rfl
    rw [← e1, a', (goes_rot y.abs _ _).size]
    exact h4
  have bel' := h10.trans (k'.below (fun j _ hj => (h1.foot_lt hj).1) h10.size)
  constructor
  · intro hE
    have hS : y.abs.rotS ((a : Int) + (k : Int)) (q : Int) = y.abs.rotted (a + k) q := by
      unfold Dsk.rotS
      rw [if_pos hE]
      congr 1
    rw [hS] at a'
    have hsz : y.abs.size = m := h4
    refine ⟨y', fun i => if i = k then true else T i, h', d'.trans h2, hl', hs', by rw [a']; exact h5.turn k q hk (h6 k (Nat.le_refl _)) (by rw [hsz]; exact hq), fun i hi => by simp only; rw [if_neg (by omega)]; exact h6 i (by omega), ⟨fun h => by omega, fun h => ?_⟩, by omega, by omega, bel'⟩
    have := h k hk
    simp at this
  · intro hE
    have hS : y.abs.rotS ((a : Int) + (k : Int)) (q : Int) = y.abs := if_neg hE
    rw [hS] at a'
    exact ⟨y', T, h', d'.trans h2, hl', hs', by rw [a']; exact h5, fun i hi => h6 i (by omega), h7, h8, by omega, bel'⟩
theorem drewN_below (w : World) (q : Nat) : Below w.heap.size w (w.drewN q) := ⟨rfl, rfl, rfl, Nat.le_refl _, fun _ _ => rfl⟩
set_option maxHeartbeats 6400000 in
set_option maxRecDepth 100000 in
theorem pageRots_walk (z : CaseR) (o : OpR) (bits : List Nat) (A2 : Option Addr) (cap2 : Nat) (w : World) (hT : Tab w) (hz : CaseOK w z) (ho : OpOK w o) (hR2 : RV w A2 (bits.map u16V)) (hb16 : ∀ n ∈ bits, n < 65536) (hbl : bits.length ≤ 9223372036854775807) :
    Calls Tryd.prog 7 #[.agg z.cells.toArray, .agg o.cells.toArray, .slice A2 bits.length cap2] w fun e w' => e = .returned (.bool true) ∧ Below w.heap.size w w' := by
  obtain ⟨okd, oat, oty, omk, obs, oba, obc, okp, oka, okc⟩ := o
  obtain ⟨zs, zz, l, la, lc⟩ := z
  have om1 := ho.m1
  have om2 := ho.m2
  have obl : obs.length ≤ obc := ho.bl
  have obcc : obc ≤ 9223372036854775807 := ho.bc
  simp only at om1 om2
  have cb := (Blk.new w 35 #[.int .i64 zs, .int .i64 zz, .slice la l.length lc]).alloc (.cells #[.int .u8 (okd.toNat : Int), .int .i64 oat, .int .u8 (oty.toNat : Int), .int .i64 omk, .slice oba obs.length obc, .slice oka okp.length okc] 46)
  have ob := Blk.new (w.alloc (.cells #[.int .i64 zs, .int .i64 zz, .slice la l.length lc] 35)) 46 #[.int .u8 (okd.toNat : Int), .int .i64 oat, .int .u8 (oty.toNat : Int), .int .i64 omk, .slice oba obs.length obc, .slice oka okp.length okc]
  have B1 : Below w.heap.size w ((w.alloc (.cells #[.int .i64 zs, .int .i64 zz, .slice la l.length lc] 35)).alloc (.cells #[.int .u8 (okd.toNat : Int), .int .i64 oat, .int .u8 (oty.toNat : Int), .int .i64 omk, .slice oba obs.length obc, .slice oka okp.length okc] 46)) := ((Below.refl _ _).alloc (Nat.le_refl _) _).alloc (by simp) _
  have hs1 : (w.alloc (.cells #[.int .i64 zs, .int .i64 zz, .slice la l.length lc] 35)).heap.size = w.heap.size + 1 := by simp
  rw [hs1] at ob
  show Calls Tryd.prog 7 #[.agg #[.int .i64 zs, .int .i64 zz, .slice la l.length lc], .agg #[.int .u8 (okd.toNat : Int), .int .i64 oat, .int .u8 (oty.toNat : Int), .int .i64 omk, .slice oba obs.length obc, .slice oka okp.length okc], .slice A2 bits.length cap2] w _
  have hg := hT.lt
  go_enter Tryd.func7, Tryd.ntmps7
  go_wp2_with fail
  clear hs1
  generalize ((w.alloc (.cells #[.int .i64 zs, .int .i64 zz, .slice la l.length lc] 35)).alloc (.cells #[.int .u8 (okd.toNat : Int), .int .i64 oat, .int .u8 (oty.toNat : Int), .int .i64 omk, .slice oba obs.length obc, .slice oka okp.length okc] 46)) = w1 at *
  have lt1 : w.heap.size + 1 < w1.heap.size := ob.lt
  refine (made_calls ⟨zs, zz, l, la, lc⟩ w1 (hT.below B1) (hz.below B1)).mono ?_
  rintro e w2 (⟨rfl, b2⟩ | ⟨y, rfl, hd, hzs, hzz, h12, h64, hwp, b2⟩)
  · have bel := B1.trans (b2.mono B1.size)
    have T2 := hT.below bel
    go_wp2_with fail
    refine (awake_calls w2 T2).mono ?_
    rintro e w3 ⟨rfl, b3⟩
    clear T2 hT
    go_wp2
    go_ret
    exact ⟨rfl, bel.trans (b3.mono bel.size)⟩
  · have bel := B1.trans (b2.mono B1.size)
    have T2 := hT.below bel
    have ob2 := ob.below b2 lt1
    have g4 : w2.cell? ⟨w.heap.size + 1, 4, none⟩ = some (.slice oba obs.length obc) := ob2.at_ rfl
    by_cases t6 : 200 < obs.length
    · have d6 : decide (200 < (obs.length : Int)) = true := decide_eq_true (by omega)
      clear t6
      go_wp2_with fail
      refine (awake_calls w2 T2).mono ?_
      rintro e w3 ⟨rfl, b3⟩
      clear T2 hT
      go_wp2
      go_ret
      exact ⟨rfl, bel.trans (b3.mono bel.size)⟩
    have d6 : decide (200 < (obs.length : Int)) = false := decide_eq_false (by omega)
    by_cases t7 : 12 < bits.length
    · have d7 : decide (12 < (bits.length : Int)) = true := decide_eq_true (by omega)
      clear t7
      go_wp2_with fail
      refine (awake_calls w2 T2).mono ?_
      rintro e w3 ⟨rfl, b3⟩
      clear T2 hT
      go_wp2
      go_ret
      exact ⟨rfl, bel.trans (b3.mono bel.size)⟩
    have d7 : decide (12 < (bits.length : Int)) = false := decide_eq_false (by omega)
    go_wp2_with fail
    refine (on_next y w2 w1.heap.size hd).mono ?_
    rintro e w3 ⟨rfl, y3, h3, a3, d3, k3, f3⟩
    have b3 := b2.trans (k3.below (fun j _ hj => (hd.foot_lt hj).1) b2.size)
    have hwp3 : y3.wp.length ≤ 400 := by
      have := (goes_on y.abs).wait
      rw [wlen, a3]
      rw [wlen] at hwp
      omega
    have hlp3 : y3.lp.length = y.lp.length := by
      have e1 : y3.abs.last.length = y3.lp.length := by simp [Lay.abs]
      have e2 : y.abs.last.length = y.lp.length := by simp [Lay.abs]
      rw [← e1, a3, (goes_on y.abs).last, e2]
    have hsz3 : y3.size = y.size := by
      have e1 : y3.abs.size = y3.size := rfl
      rw [← e1, a3]
      rfl
    clear d6 d7 g4 ob2 bel T2
    rw [← d3]
    have bel := B1.trans (b3.mono B1.size)
    have T3 := hT.below bel
    have ob3 := ob.below b3 lt1
    have g1 : w3.cell? ⟨w.heap.size + 1, 1, none⟩ = some (.int .i64 oat) := ob3.at_ rfl
    have g2 : w3.cell? ⟨w.heap.size + 1, 2, none⟩ = some (.int .u8 (oty.toNat : Int)) := ob3.at_ rfl
    have g3 : w3.cell? ⟨w.heap.size + 1, 3, none⟩ = some (.int .i64 omk) := ob3.at_ rfl
    have g4 : w3.cell? ⟨w.heap.size + 1, 4, none⟩ = some (.slice oba obs.length obc) := ob3.at_ rfl
    have RBS : RVF w3 y3.foot oba (cB obs) := rvf_in ho.rb bel h3 (by omega)
    have P := pput_calls y3 oat oty omk obs oba obc w3 w1.heap.size h3 T3 b3.size RBS obl obcc (by omega) (by omega)
    clear RBS ob3 k3 f3 d3 b2 hd
    by_cases hE : putE y3.abs oat oty obs.length = 0
    · obtain ⟨q1, q2, q3, q4, q5, q6⟩ := putE_zero hE
      obtain ⟨a, rfl⟩ := Int.eq_ofNat_of_zero_le q1
      have hl3 : y3.abs.last.length = y3.lp.length := by simp [Lay.abs]
      have hz3 : y3.abs.size = y3.size := rfl
      obtain rfl : zz = (y3.size : Int) := by rw [hsz3, hzz]
      obtain ⟨nn, en, en1, _⟩ := need_nat y3.size obs.length (by rw [← hz3]; exact q4)
      have hNN : putN y3.abs (a : Int) oty obs.length = (nn : Int) := by
        unfold putN
        rw [if_pos hE, hz3, en]
      have hSS : putS y3.abs (a : Int) oty omk obs = putD y3.abs a oty omk obs nn := by
        unfold putS
        rw [if_pos hE, hz3, en, Int.toNat_natCast, Int.toNat_natCast]
      rw [hE, hNN, hSS] at P
      have h19 : 19 ≤ y3.size := by have := (need_pos (size := y3.size) (bytes := obs.length) (by omega)).1; omega
      have hR0 : Rots (putD y3.abs a oty omk obs nn) a oty omk obs nn (fun _ => false) := Rots.put y3.abs a oty omk obs nn (by rw [hl3] at q5 ⊢; rw [hz3, en] at q5; omega) q6 (by rw [hz3]; exact h19)
      have hlen : (putD y3.abs a oty omk obs nn).last.length = y3.lp.length := hl3
      have hsz : (putD y3.abs a oty omk obs nn).size = y3.size := rfl
      rw [hl3, hz3, en] at q5
      generalize putD y3.abs a oty omk obs nn = SS at *
      clear hE hNN hSS q1 q2 q4 q6
      go_wp2_with fail
      refine P.mono ?_
      clear P
      rintro e w4 ⟨rfl, y4, h4, a4, d4, k4, f4⟩
      have b4 := b3.trans (k4.below (fun j _ hj => (h3.foot_lt hj).1) b3.size)
      rw [← d4]
      have TU : Turning w1 y4.D y3.lp.length y3.size a oty omk obs nn 0 0 w4 := by
        refine ⟨y4, fun _ => false, h4, rfl, ?_, ?_, by rw [a4]; exact hR0, fun _ _ => rfl, ⟨fun _ _ _ => rfl, fun _ => rfl⟩, Int.le_refl _, Int.le_refl _, b4⟩
        · rw [← hlen, ← a4]; simp [Lay.abs]
        · rw [← hsz, ← a4]; rfl
      have cb3 := cb
      clear h4 a4 k4 f4 d4 hR0 hlen hsz h3 a3 b3 bel T3 hl3 hz3 g1 g2 g3 g4
      go_wp2
      go_loopw [10, 54] (fun tv i wr => ∃ (k : Nat) (t : Int), k ≤ bits.length ∧ i = .int .i64 k ∧ tv = .int .i64 t ∧ Turning w1 y4.D y3.lp.length y3.size a oty omk obs nn k t wr) (fun _ i _ => bits.length - (intOf i).toNat)
      case atStart => exact ⟨0, 0, by omega, rfl, rfl, TU⟩
      case round =>
        obtain ⟨k, t, hk, rfl, rfl, tu⟩ := hrel
        by_cases hlt : k < bits.length
        · obtain ⟨y, T, h1, hD, hn, hm, h5, h6, h7, h8, h9, bel⟩ := tu
          obtain ⟨bv, hbv⟩ : ∃ bv, bits[k]? = some bv := ⟨_, List.getElem?_eq_getElem hlt⟩
          have hbv2 := hb16 bv (List.mem_of_getElem? hbv)
          obtain ⟨b, off, rfl, hb, hc⟩ := hR2 (by intro e; have := congrArg List.length e; simp at this; rw [this] at hlt; simp at hlt)
          have hBW := B1.trans (bel.mono B1.size)
          have qb : wr.cell? ⟨b, off + k, none⟩ = some (.int .u16 (bv : Int)) := by
            rw [hBW.cell (p := ⟨b, off + k, none⟩) hb]
            exact hc _ _ (by rw [List.getElem?_map, hbv]; rfl)
          have gz : wr.cell? ⟨w.heap.size, 1, none⟩ = some (.int .i64 (y3.size : Int)) := (cb.below bel (by omega)).at_ rfl
          have g1 : wr.cell? ⟨w.heap.size + 1, 1, none⟩ = some (.int .i64 (a : Int)) := (ob.below bel lt1).at_ rfl
          have hdec : decide ((k : Int) < (bits.length : Int)) = true := decide_eq_true (by omega)
          clear hc hbv hR2 hb16
          by_cases c1 : k < nn
          · have dc : decide ((k : Int) < (nn : Int)) = true := decide_eq_true (by omega)
            have dc' : decide (k < nn) = true := decide_eq_true c1
            by_cases c2 : bv % 3 = 0
            · have d3 : ((bv : Int) % 3 != 0) = false := by simp; omega
              have HT := Lib.hid (fun q => Turning.skip ⟨y, T, h1, hD, hn, hm, h5, h6, h7, h8, h9, bel⟩ (drewN_below wr q))
              clear h1 hD hn hm h5 h6 h7 h8 h9 bel hBW c2
              go_wp2_with fail
              go_quiet (fail)
              go_wp2
              go_roundw
              case rel => exact ⟨k + 1, t, by omega, by go_num, rfl, HT.out _⟩
              case measure => simp [intOf]; omega
            · have d3 : ((bv : Int) % 3 != 0) = true := by simp; omega
              obtain ⟨qq, hqq⟩ : ∃ qq : Nat, bv % (y3.size * 8) = qq := ⟨_, rfl⟩
              have hq8 : qq < 8 * y3.size := by rw [← hqq]; have := Nat.mod_lt bv (show 0 < y3.size * 8 by omega); omega
              have HQ : (bv : Int) % ((y3.size : Int) * 8) = (qq : Int) := by rw [← hqq]; push_cast; rfl
              have HQt : (bv : Int).tmod ((y3.size : Int) * 8) = (qq : Int) := by rw [Int.tmod_eq_emod_of_nonneg (by omega)]; exact HQ
              have d3t : ((bv : Int).tmod 3 != 0) = true := by rw [Int.tmod_eq_emod_of_nonneg (by omega)]; exact d3
              have hw8 : IntKind.i64.wrap ((y3.size : Int) * 8) = (y3.size : Int) * 8 := by rw [IntKind.wrap_i64]; omega
              have hwak : IntKind.i64.wrap ((a : Int) + (k : Int)) = (a : Int) + (k : Int) := by rw [IntKind.wrap_i64]; omega
              have hwbv : IntKind.i64.wrap (bv : Int) = (bv : Int) := by rw [IntKind.wrap_i64]; omega
              have hz0 : ((y3.size : Int) * 8 = 0) = False := by rw [eq_iff_iff, iff_false]; omega
              have hz8 : (((y3.size : Int) * 8) == 0) = false := by rw [beq_eq_false_iff_ne]; omega
              have R := rot_calls y ((a : Int) + (k : Int)) (qq : Int) wr.drew w1.heap.size (h1.below ((Below.refl wr.heap.size wr).drew))
              rw [hD] at R
              have HN := Lib.hid (fun (w3 : World) (N : Next wr.drew w1.heap.size y (y.abs.rotS ((a : Int) + (k : Int)) (qq : Int)) w3) => Turning.rot (h1.below ((Below.refl wr.heap.size wr).drew)) hD hn hm h5 h6 h7 h8 h9 bel.drew c1 hq8 N)
              clear h1 hD hn hm h5 h6 h7 bel hBW c2 hqq hq8
              go_wp2_with fail
              go_still_tail 20, (by kernel_rfl)
              change wpList _ _ _ _ _ wr.drew
              go_wp2_with fail
              refine R.mono ?_
              clear R
              rintro e w5 ⟨rfl, N⟩
              have hn2 := HN.out w5 N
              by_cases hE : y.abs.rotE ((a : Int) + (k : Int)) (qq : Int) = 0
              · have te : (y.abs.rotE ((a : Int) + (k : Int)) (qq : Int) == 0) = true := by rw [hE]; rfl
                have HT := Lib.hid (hn2.1 hE)
                clear hn2 hE N HN
                go_wp2
                go_roundw
                case rel => exact ⟨k + 1, t + 1, by omega, by go_num, rfl, HT.out⟩
                case measure => simp [intOf]; omega
              · have te : (y.abs.rotE ((a : Int) + (k : Int)) (qq : Int) == 0) = false := by simpa using hE
                have HT := Lib.hid (hn2.2 hE)
                clear hn2 hE N HN
                go_wp2
                go_roundw
                case rel => exact ⟨k + 1, t, by omega, by go_num, rfl, HT.out⟩
                case measure => simp [intOf]; omega
          · have dc : decide ((k : Int) < (nn : Int)) = false := decide_eq_false (by omega)
            have dc' : decide (k < nn) = false := decide_eq_false c1
            have HT := Lib.hid (fun q => Turning.skip ⟨y, T, h1, hD, hn, hm, h5, h6, h7, h8, h9, bel⟩ (drewN_below wr q))
            clear h1 hD hn hm h5 h6 h7 h8 h9 bel hBW c1
            go_wp2_with fail
            go_quiet (fail)
            go_wp2
            go_roundw
            case rel => exact ⟨k + 1, t, by omega, by go_num, rfl, HT.out _⟩
            case measure => simp [intOf]; omega
        · obtain rfl : k = bits.length := by omega
          obtain ⟨y, T, h1, hD, hn, hm, h5, h6, h7, h8, h9, bel⟩ := tu
          have hBW := B1.trans (bel.mono B1.size)
          have T5 := hT.below hBW
          have g1 : wr.cell? ⟨w.heap.size + 1, 1, none⟩ = some (.int .i64 (a : Int)) := (ob.below bel lt1).at_ rfl
          have hsz : y.abs.size = y3.size := hm
          have hget := h5.get q3 om1 om2 (by rw [hsz]; exact en) en1
          have G := pget_calls y (a : Int) wr w1.heap.size h1 T5
          rw [hD] at G
          have tq : ((t == 0) == ((getR y.abs (a : Int)).1 == 0)) = true := by
            rw [beq_iff_eq, Bool.eq_iff_iff, beq_iff_eq, beq_iff_eq, h7, hget]
          generalize getR y.abs (a : Int) = RR at *
          clear h1 hD hn hm h5 h6 h7 hget hsz
          go_wp2_with fail
          refine G.mono ?_
          clear G
          rintro e w6 ⟨v6, rfl, o6, b6⟩
          have bel6 := hBW.trans (b6.mono hBW.size)
          have T6 := hT.below bel6
          clear o6 b6 T5 bel hBW
          go_wp2_with fail
          refine (awake_calls w6 T6).mono ?_
          rintro e w7 ⟨rfl, b7⟩
          clear T6 hT
          go_wp2
          go_ret
          exact ⟨rfl, bel6.trans (b7.mono bel6.size)⟩
    · have e0 : (putE y3.abs oat oty obs.length != 0) = true := by simpa using hE
      generalize putE y3.abs oat oty obs.length = E at *
      generalize putN y3.abs oat oty obs.length = N at *
      generalize putS y3.abs oat oty omk obs = SS at *
      clear hE
      go_wp2_with fail
      refine P.mono ?_
      clear P
      rintro e w4 ⟨rfl, y4, h4, a4, d4, k4, f4⟩
      have b4 := b3.trans (k4.below (fun j _ hj => (h3.foot_lt hj).1) b3.size)
      have bel4 := B1.trans (b4.mono B1.size)
      have T4 := hT.below bel4
      clear k4 f4 h4 d4 a4
      go_wp2_with fail
      refine (awake_calls _ T4).mono ?_
      rintro e w7 ⟨rfl, b7⟩
      clear T4 hT
      go_wp2
      go_ret
      exact ⟨rfl, bel4.trans (b7.mono bel4.size)⟩
end Go.Proofs.YtfdecpmdicnfbaaDoor
