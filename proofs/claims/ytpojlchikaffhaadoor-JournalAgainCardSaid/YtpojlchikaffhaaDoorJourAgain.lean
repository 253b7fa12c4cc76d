/-
  The statements' JournalAgain, walked.
-/
import Derived.Test.YtpojlchikaffhaaDoorJourLoop
import Derived.Test.YtpojlchikaffhaaDoorJourWakes
namespace Go.Proofs.YtpojlchikaffhaaDoor
open Go.RowKit DiskP SumP PageP JourP

set_option maxHeartbeats 6400000 in
set_option maxRecDepth 100000 in
theorem jourAgain_walk (P : PlaceR) (l lb : List ActR) (n nb : Nat) (hn : l.length = n) (hnb0 : lb.length = nb) (A Ab : Option Addr) (cap capb : Nat) (w : World) (hT : Tab w) (hR : RV w A (aC l)) (hRb : RV w Ab (aC lb)) (hk : ∀ a ∈ l, RecOK w (fun _ => False) a.r) (hkb : ∀ a ∈ lb, RecOK w (fun _ => False) a.r) (hb : ∀ a ∈ l, a.r.body.length ≤ 140737488351232) (hbb : ∀ a ∈ lb, a.r.body.length ≤ 140737488351232) (hl : n ≤ 9223372036854775807) (hlb : nb ≤ 9223372036854775807)
    (kp1 kp2 : List Bool) (k1 k2 : Nat) (hk1 : kp1.length = k1) (hk2 : kp2.length = k2) (K1 K2 : Option Addr) (kc1 kc2 : Nat) (torn1 torn2 : Int) (hR1 : RV w K1 (cL kp1)) (hR2 : RV w K2 (cL kp2)) (hkl1 : k1 ≤ 9223372036854775807) (hkl2 : k2 ≤ 9223372036854775807) :
    Calls Tryd.prog 6 #[.agg P.cells, .agg #[.slice A n cap, .slice Ab nb capb, .slice K1 k1 kc1, .int .i64 torn1, .slice K2 k2 kc2, .int .i64 torn2]] w fun e w' => e = .returned (.bool true) ∧ Below w.heap.size w w' := by
  obtain ⟨pa, ps, pf, pn⟩ := P
  have hg := hT.lt
  have B1 : Below w.heap.size w ((w.alloc (.cells #[.int .i64 pa, .int .i64 ps, .int .i64 pf, .int .i64 pn] 23)).alloc (.cells #[.slice A n cap, .slice Ab nb capb, .slice K1 k1 kc1, .int .i64 torn1, .slice K2 k2 kc2, .int .i64 torn2] 66)) := ((Below.refl _ _).alloc (Nat.le_refl _) _).alloc (by simp) _
  have P1 : Blk ((w.alloc (.cells #[.int .i64 pa, .int .i64 ps, .int .i64 pf, .int .i64 pn] 23)).alloc (.cells #[.slice A n cap, .slice Ab nb capb, .slice K1 k1 kc1, .int .i64 torn1, .slice K2 k2 kc2, .int .i64 torn2] 66)) w.heap.size 23 #[.int .i64 pa, .int .i64 ps, .int .i64 pf, .int .i64 pn] := (Blk.new w 23 #[.int .i64 pa, .int .i64 ps, .int .i64 pf, .int .i64 pn]).alloc _
  have Q1 : Blk ((w.alloc (.cells #[.int .i64 pa, .int .i64 ps, .int .i64 pf, .int .i64 pn] 23)).alloc (.cells #[.slice A n cap, .slice Ab nb capb, .slice K1 k1 kc1, .int .i64 torn1, .slice K2 k2 kc2, .int .i64 torn2] 66)) (w.heap.size + 1) 66 #[.slice A n cap, .slice Ab nb capb, .slice K1 k1 kc1, .int .i64 torn1, .slice K2 k2 kc2, .int .i64 torn2] := by
    have := Blk.new (w.alloc (.cells #[.int .i64 pa, .int .i64 ps, .int .i64 pf, .int .i64 pn] 23)) 66 #[.slice A n cap, .slice Ab nb capb, .slice K1 k1 kc1, .int .i64 torn1, .slice K2 k2 kc2, .int .i64 torn2]
    simpa using this
  have WC := fun (w' : World) (b : Below w.heap.size w w') => wakes_calls w' (hT.below b)
  have SCa : ∀ (w' : World), Below w.heap.size w w' → Calls Tryd.prog 10 #[.agg #[.int .i64 pa, .int .i64 ps, .int .i64 pf, .int .i64 pn], .slice A n cap] w' (RetSmall w' ⟨pa, ps, pf, pn⟩ l) := fun w' b => small_calls ⟨pa, ps, pf, pn⟩ l n hn A cap w' (hR.below b) hb hl
  have SCb : ∀ (w' : World), Below w.heap.size w w' → Calls Tryd.prog 10 #[.agg #[.int .i64 pa, .int .i64 ps, .int .i64 pf, .int .i64 pn], .slice Ab nb capb] w' (RetSmall w' ⟨pa, ps, pf, pn⟩ lb) := fun w' b => small_calls ⟨pa, ps, pf, pn⟩ lb nb hnb0 Ab capb w' (hRb.below b) hbb hlb
  have OC : ∀ (w' : World), Below w.heap.size w w' → pa ≤ 400 → ps ≤ 512 → pn ≤ 400 → Calls Tryd.prog 11 #[.agg #[.int .i64 pa, .int .i64 ps, .int .i64 pf, .int .i64 pn]] w' (RetO w' ⟨pa, ps, pf, pn⟩) := fun w' b h1 h2 h3 => lopen_calls ⟨pa, ps, pf, pn⟩ w' (hT.below b) h1 h2 h3
  show Calls Tryd.prog 6 #[.agg #[.int .i64 pa, .int .i64 ps, .int .i64 pf, .int .i64 pn], .agg #[.slice A n cap, .slice Ab nb capb, .slice K1 k1 kc1, .int .i64 torn1, .slice K2 k2 kc2, .int .i64 torn2]] w _
  go_enter Tryd.func6, Tryd.ntmps6
  go_wp2_with fail
  generalize ((w.alloc (.cells #[.int .i64 pa, .int .i64 ps, .int .i64 pf, .int .i64 pn] 23)).alloc (.cells #[.slice A n cap, .slice Ab nb capb, .slice K1 k1 kc1, .int .i64 torn1, .slice K2 k2 kc2, .int .i64 torn2] 66)) = w1 at *
  (with_reducible refine (WC w1 B1).mono ?_)
  clear WC
  rintro _ w2 ⟨rfl, b2⟩
  have B2 := B1.trans (b2.mono B1.size)
  have P2 := P1.below b2 P1.lt
  have Q2 := Q1.below b2 Q1.lt
  have c0 : w2.cell? ⟨w.heap.size, 0, none⟩ = some (.int .i64 pa) := P2.at_ rfl
  have c1 : w2.cell? ⟨w.heap.size, 1, none⟩ = some (.int .i64 ps) := P2.at_ rfl
  have c2 : w2.cell? ⟨w.heap.size, 2, none⟩ = some (.int .i64 pf) := P2.at_ rfl
  have c3 : w2.cell? ⟨w.heap.size, 3, none⟩ = some (.int .i64 pn) := P2.at_ rfl
  have d0 : w2.cell? ⟨w.heap.size + 1, 0, none⟩ = some (.slice A n cap) := Q2.at_ rfl
  clear P1 Q1 b2
  go_wp2_with fail
  (with_reducible refine (SCa w2 B2).mono ?_)
  clear SCa d0 c0 c1 c2 c3
  rintro _ w3a ⟨(⟨rfl, hSa⟩ | rfl), b3a⟩
  rotate_left
  · clear OC SCb
    have HF := Lib.hid (B2.trans (b3a.mono B2.size))
    go_wp2_with fail
    go_ret
    exact ⟨rfl, HF.out⟩
  have B3a := B2.trans (b3a.mono B2.size)
  have P3a := P2.below b3a P2.lt
  have Q3a := Q2.below b3a Q2.lt
  have c0 : w3a.cell? ⟨w.heap.size, 0, none⟩ = some (.int .i64 pa) := P3a.at_ rfl
  have c1 : w3a.cell? ⟨w.heap.size, 1, none⟩ = some (.int .i64 ps) := P3a.at_ rfl
  have c2 : w3a.cell? ⟨w.heap.size, 2, none⟩ = some (.int .i64 pf) := P3a.at_ rfl
  have c3 : w3a.cell? ⟨w.heap.size, 3, none⟩ = some (.int .i64 pn) := P3a.at_ rfl
  have d1 : w3a.cell? ⟨w.heap.size + 1, 1, none⟩ = some (.slice Ab nb capb) := Q3a.at_ rfl
  go_wp2_with fail
  (with_reducible refine (SCb w3a B3a).mono ?_)
  clear SCb d1 c0 c1 c2 c3
  rintro _ w3 ⟨(⟨rfl, hSb⟩ | rfl), b3⟩
  rotate_left
  · clear OC
    have HF := Lib.hid (B3a.trans (b3.mono B3a.size))
    go_wp2_with fail
    go_ret
    exact ⟨rfl, HF.out⟩
  have B3 := B3a.trans (b3.mono B3a.size)
  have P3 := P3a.below b3 P3a.lt
  have Q3 := Q3a.below b3 Q3a.lt
  have qc : w3.cell? ⟨w.heap.size + 1, 2, none⟩ = some (.slice K1 k1 kc1) := Q3.at_ rfl
  have qd : w3.cell? ⟨w.heap.size + 1, 4, none⟩ = some (.slice K2 k2 kc2) := Q3.at_ rfl
  by_cases h500 : 500 < k1
  · have dk : decide (500 < k1) = true := decide_eq_true h500
    have dk' : decide (500 < (k1 : Int)) = true := decide_eq_true (by omega)
    clear OC
    have HF := Lib.hid (B3a.trans (b3.mono B3a.size))
    go_wp2_with fail
    go_ret
    exact ⟨rfl, HF.out⟩
  have dk : decide (500 < k1) = false := decide_eq_false h500
  have dk' : decide (500 < (k1 : Int)) = false := decide_eq_false (by omega)
  by_cases h501 : 500 < k2
  · have dl : decide (500 < k2) = true := decide_eq_true h501
    have dl' : decide (500 < (k2 : Int)) = true := decide_eq_true (by omega)
    clear OC
    have HF := Lib.hid (B3a.trans (b3.mono B3a.size))
    go_wp2_with fail
    go_ret
    exact ⟨rfl, HF.out⟩
  have dl : decide (500 < k2) = false := decide_eq_false h501
  have dl' : decide (500 < (k2 : Int)) = false := decide_eq_false (by omega)
  obtain ⟨_, hl40, h1, h2, h3⟩ := hSa
  obtain ⟨_, hlb40, _, _, _⟩ := hSb
  simp only at h1 h2 h3
  have c0 : w3.cell? ⟨w.heap.size, 0, none⟩ = some (.int .i64 pa) := P3.at_ rfl
  have c1 : w3.cell? ⟨w.heap.size, 1, none⟩ = some (.int .i64 ps) := P3.at_ rfl
  have c2 : w3.cell? ⟨w.heap.size, 2, none⟩ = some (.int .i64 pf) := P3.at_ rfl
  have c3 : w3.cell? ⟨w.heap.size, 3, none⟩ = some (.int .i64 pn) := P3.at_ rfl
  go_wp2_with fail
  (with_reducible refine (OC w3 B3 h1 h2 h3).mono ?_)
  clear OC
  rintro _ w4 (⟨v0, rfl, b4⟩ | ⟨base, j, x, f, s, rfl, b4, hb1, hb2, BJ, hf, hs, hq, hlen, hsz⟩)
  · have HF := Lib.hid (B3.trans (b4.mono B3.size))
    go_wp2_with fail
    go_ret
    exact ⟨rfl, HF.out.alloc HF.out.size _⟩
  simp only at hf hs hq hlen hsz
  subst hf hs
  rw [hlen, hsz] at hq
  have HQ := Lib.hid hq
  have B4 := B3.trans (b4.mono B3.size)
  have hs3 := B3.size
  have hp3 := P3.lt
  have hq3 := Q3.lt
  have P4 := P3.below b4 P3.lt
  have Q4 := Q3.below b4 Q3.lt
  obtain ⟨xA, xc, xr, xl, xh, xs, xe⟩ := x
  rw [XL.val_eq]
  clear c0 c1 c2 c3 hlen hsz hq P2 Q2 P3 Q3 P3a Q3a qc qd b3 b3a B1 B2 B3a
  have nb5 := Blk.new w4 31 #[.slice xA xr.length xc, .int .i64 (xl : Int), .int .i64 xh, .int .i64 xs, .int .i64 xe]
  have b5 : Below w4.heap.size w4 (w4.alloc (.cells #[.slice xA xr.length xc, .int .i64 (xl : Int), .int .i64 xh, .int .i64 xs, .int .i64 xe] 31)) := (Below.refl _ _).alloc (Nat.le_refl _) _
  have hl5 : w4.heap.size < (w4.alloc (.cells #[.slice xA xr.length xc, .int .i64 (xl : Int), .int .i64 xh, .int .i64 xs, .int .i64 xe] 31)).heap.size := by simp
  have P5 := P4.below b5 P4.lt
  have Q5 := Q4.below b5 Q4.lt
  have dA : (w4.alloc (.cells #[.slice xA xr.length xc, .int .i64 (xl : Int), .int .i64 xh, .int .i64 xs, .int .i64 xe] 31)).cell? ⟨w.heap.size + 1, 0, none⟩ = some (.slice A n cap) := Q5.at_ rfl
  go_wp2_with fail
  generalize w4.alloc (.cells #[.slice xA xr.length xc, .int .i64 (xl : Int), .int .i64 xh, .int .i64 xs, .int .i64 xe] 31) = w5 at *
  have B5 := B4.trans (b5.mono B4.size)
  have HL0 := Lib.hid (LoopJ.start (f := f) (h := s / 2) (e0 := 1) BJ hb2 b5 hl5 nb5 rfl rfl rfl)
  have hs4 := b4.size
  obtain ⟨xb, hxb⟩ : ∃ xb, w4.heap.size = xb := ⟨_, rfl⟩
  obtain ⟨G, hG⟩ : ∃ G, j.G = G := ⟨_, rfl⟩
  obtain ⟨D, hD⟩ : ∃ D, j.y.D = D := ⟨_, rfl⟩
  obtain ⟨N, hN⟩ : ∃ N, j.y.lp.length = N := ⟨_, rfl⟩
  obtain ⟨Z, hZ⟩ : ∃ Z, j.y.size = Z := ⟨_, rfl⟩
  rw [hxb, hG, hD, hN, hZ] at HL0
  rw [hN, hZ] at HQ
  rw [hxb, hG, hD]
  clear BJ nb5 b5 dA hG hD hN hZ b4 P4 Q4 B3 B4
  go_loopw [58] (fun i wr => ∃ (k : Nat) (jj : JL) (xx : XL) (pp : PJ), k ≤ n ∧ i = .int .i64 (k : Int) ∧ LoopJ w5 base xb G D N Z f (s / 2) 1 0 k jj xx pp wr) (fun i _ => n - (intOf i).toNat)
  case atStart => exact ⟨0, j, _, _, by omega, rfl, HL0.out⟩
  case round =>
    obtain ⟨k, jj, ⟨xA, xc, xr, xl, xh, xs, xe⟩, pp, hkn, rfl, L⟩ := hrel
    have br : Below w.heap.size w wr := B5.trans (L.bel.mono (by omega))
    by_cases hlt : k < n
    · have dec : decide ((k : Int) < (n : Int)) = true := decide_eq_true (by omega)
      have dec' : decide (k < n) = true := decide_eq_true hlt
      obtain ⟨a, hak⟩ : ∃ a, l[k]? = some a := ⟨_, List.getElem?_eq_getElem (by omega)⟩
      obtain ⟨g, off, hAA, hgl, a0, a1, a2, a3⟩ := act_at (hR.below br) hak
      subst hAA
      have hra := hk a (List.mem_of_getElem? hak)
      obtain ⟨ak, ⟨rk, rA, rc, rb⟩, af⟩ := a
      simp only at a0 a1 a2 a3 hra
      have b6 : Below wr.heap.size wr (wr.alloc (.cells #[.int .u8 (ak.toNat : Int), .int .u8 (rk.toNat : Int), .slice rA rb.length rc, .int .u8 (af.toNat : Int)] 52)) := (Below.refl _ _).alloc (Nat.le_refl _) _
      have Lz := L.below b6
      have hb6 : base ≤ (wr.alloc (.cells #[.int .u8 (ak.toNat : Int), .int .u8 (rk.toNat : Int), .slice rA rb.length rc, .int .u8 (af.toNat : Int)] 52)).heap.size := Nat.le_trans Lz.hw Lz.bel.size
      have q0 : (wr.alloc (.cells #[.int .u8 (ak.toNat : Int), .int .u8 (rk.toNat : Int), .slice rA rb.length rc, .int .u8 (af.toNat : Int)] 52)).cell? ⟨xb, 0, none⟩ = some (.slice xA xr.length xc) := Lz.blk.at_ rfl
      have q1 : (wr.alloc (.cells #[.int .u8 (ak.toNat : Int), .int .u8 (rk.toNat : Int), .slice rA rb.length rc, .int .u8 (af.toNat : Int)] 52)).cell? ⟨xb, 1, none⟩ = some (.int .i64 (xl : Int)) := Lz.blk.at_ rfl
      have q2 : (wr.alloc (.cells #[.int .u8 (ak.toNat : Int), .int .u8 (rk.toNat : Int), .slice rA rb.length rc, .int .u8 (af.toNat : Int)] 52)).cell? ⟨xb, 2, none⟩ = some (.int .i64 xh) := Lz.blk.at_ rfl
      have q3 : (wr.alloc (.cells #[.int .u8 (ak.toNat : Int), .int .u8 (rk.toNat : Int), .slice rA rb.length rc, .int .u8 (af.toNat : Int)] 52)).cell? ⟨xb, 3, none⟩ = some (.int .i64 xs) := Lz.blk.at_ rfl
      have q4 : (wr.alloc (.cells #[.int .u8 (ak.toNat : Int), .int .u8 (rk.toNat : Int), .slice rA rb.length rc, .int .u8 (af.toNat : Int)] 52)).cell? ⟨xb, 4, none⟩ = some (.int .i64 xe) := Lz.blk.at_ rfl
      have hxb0 := Lz.hx
      have DC : Calls Tryd.prog 19 #[.pointer (some ⟨jj.G, 0, none⟩), .agg #[.slice xA xr.length xc, .int .i64 (xl : Int), .int .i64 xh, .int .i64 xs, .int .i64 xe], .agg #[.int .u8 (ak.toNat : Int), .int .u8 (rk.toNat : Int), .slice rA rb.length rc, .int .u8 (af.toNat : Int)]] (wr.alloc (.cells #[.int .u8 (ak.toNat : Int), .int .u8 (rk.toNat : Int), .slice rA rb.length rc, .int .u8 (af.toNat : Int)] 52)) _ :=
        do_calls jj pp ⟨xA, xc, xr, xl, xh, xs, xe⟩ (0) ⟨ak, ⟨rk, rA, rc, rb⟩, af⟩ (wr.alloc (.cells #[.int .u8 (ak.toNat : Int), .int .u8 (rk.toNat : Int), .slice rA rb.length rc, .int .u8 (af.toNat : Int)] 52)) base (fun i => i = xb) Lz.both (hT.below (br.trans (b6.mono br.size))) hb6 (by omega) (hra.apart (Nat.le_refl _) (br.trans (b6.mono br.size)) (fun i hi => by
          rcases hi with hi | hi
          · have := (Lz.both.L.ok.foot_lt hi).1
            omega
          · omega)) (by have := L.e; omega) (by omega) (by omega)
      rw [L.G] at DC
      have HL := Lib.hid L
      have HB := Lib.hid b6
      clear L Lz hra hak
      go_wp2_with fail
      (with_reducible refine DC.mono ?_)
      clear DC q0 q1 q2 q3 q4
      rintro _ w7 R
      obtain ⟨⟨yA, yc, yr, yl, yh, ys, ye⟩, rfl, blk7, _, hs7, j', HN⟩ := LoopJ.next HL.out HB.out R
      rw [XL.val_eq]
      have HN' : Hid (∃ jj xx pp, LoopJ w5 base xb G D N Z f (s / 2) 1 0 (k + 1) jj xx pp (((((w7.setCell ⟨xb, 0, none⟩ (.slice yA yr.length yc)).setCell ⟨xb, 1, none⟩ (.int .i64 (yl : Int))).setCell ⟨xb, 2, none⟩ (.int .i64 yh)).setCell ⟨xb, 3, none⟩ (.int .i64 ys)).setCell ⟨xb, 4, none⟩ (.int .i64 ye))) :=
        ⟨_, _, _, HN _ ((((((Kept.refl (fun i => i = xb) w7).setCell (p := ⟨xb, 0, none⟩) (.inl rfl) _).setCell (p := ⟨xb, 1, none⟩) (.inl rfl) _).setCell (p := ⟨xb, 2, none⟩) (.inl rfl) _).setCell (p := ⟨xb, 3, none⟩) (.inl rfl) _).setCell (p := ⟨xb, 4, none⟩) (.inl rfl) _)
          (((((blk7.set_ 0 _).set_ 1 _).set_ 2 _).set_ 3 _).set_ 4 _)⟩
      have z0 : w7.cell? ⟨xb, 0, none⟩ = some (.slice xA xr.length xc) := blk7.at_ rfl
      have z1 : w7.cell? ⟨xb, 1, none⟩ = some (.int .i64 (xl : Int)) := blk7.at_ rfl
      have z2 : w7.cell? ⟨xb, 2, none⟩ = some (.int .i64 xh) := blk7.at_ rfl
      have z3 : w7.cell? ⟨xb, 3, none⟩ = some (.int .i64 xs) := blk7.at_ rfl
      have z4 : w7.cell? ⟨xb, 4, none⟩ = some (.int .i64 xe) := blk7.at_ rfl
      have y0 := blk7.frozen 0
      have y1 := blk7.frozen 1
      have y2 := blk7.frozen 2
      have y3 := blk7.frozen 3
      have y4 := blk7.frozen 4
      clear HN blk7 HL HB R b6 a0 a1 a2 a3 hgl hb6
      go_wp2_with fail
      go_roundw
      case rel =>
        obtain ⟨jj', xx', pp', L'⟩ := HN'.out
        exact ⟨k + 1, jj', xx', pp', by omega, by go_num, L'⟩
      case measure => simp [intOf]; omega
    · obtain rfl : k = n := by omega
      have dec : decide ((k : Int) < (k : Int)) = false := decide_eq_false (by omega)
      have dec' : decide (k < k) = false := decide_eq_false (by omega)
      have Pr := P5.below (L.bel.mono (by omega : w.heap.size + 1 ≤ base)) (by omega)
      have Qr := Q5.below (L.bel.mono (by omega : w.heap.size + 1 + 1 ≤ base)) (by omega)
      have c0 : wr.cell? ⟨w.heap.size + 1, 2, none⟩ = some (.slice K1 k1 kc1) := Qr.at_ rfl
      have c1 : wr.cell? ⟨w.heap.size + 1, 3, none⟩ = some (.int .i64 torn1) := Qr.at_ rfl
      have hbw : base ≤ wr.heap.size := Nat.le_trans L.hw L.bel.size
      have hfl : ∀ i, jj.y.foot i → base ≤ i := fun i hi => (L.both.L.ok.dk.foot_lt hi).1
      have CC := cut_calls jj.y kp1 K1 kc1 torn1 wr base L.both.L.ok.dk (by have := L.both.L.waits; omega) (by omega) (rv_far hR1 br (fun i hi => by have := hfl i hi; omega))
      rw [L.D, hk1] at CC
      go_wp2_with fail
      (with_reducible refine CC.mono ?_)
      clear CC c0 c1
      rintro _ w7 ⟨rfl, n7⟩
      obtain ⟨y7, C7⟩ := cut_state n7
      have OC := on_next y7 w7 base C7.ok
      rw [C7.D, L.D] at OC
      go_wp2_with fail
      (with_reducible refine OC.mono ?_)
      clear OC
      rintro _ w8 ⟨rfl, n8⟩
      obtain ⟨y8, C8⟩ := on_state C7 n8
      have hb8 : base ≤ w8.heap.size := Nat.le_trans hbw C8.kept.size
      have Bb8 := C8.lower L.both.L.ok.dk hbw
      have Bw8 : Below w.heap.size w w8 := br.trans (Bb8.mono (by omega))
      have P8 := Pr.below (Bb8.mono (by omega : w.heap.size + 1 ≤ base)) (by omega)
      have Q8 := Qr.below (Bb8.mono (by omega : w.heap.size + 1 + 1 ≤ base)) (by omega)
      have c2 : w8.cell? ⟨w.heap.size, 2, none⟩ = some (.int .i64 (f : Int)) := P8.at_ rfl
      have c3 : w8.cell? ⟨w.heap.size, 3, none⟩ = some (.int .i64 (s : Int)) := P8.at_ rfl
      have OB := reopen_calls (f := f) (s := s) C8 (by rw [L.len, L.size]; exact HQ.out) (L.cut kp1 torn1) L.both.L.u (by have := L.e; omega) (hT.below Bw8) hb8 (by omega)
      rw [L.D] at OB
      clear n7 n8 C7 Qr Pr
      go_wp2_with fail
      (with_reducible refine OB.mono ?_)
      clear OB
      rintro _ w9 ⟨m, kk, rfl, Lm, q1, q2, _, hmD, ⟨hmz, hml⟩, hwt, K9, hmf⟩
      have hll := q1 rfl
      obtain ⟨X9, k9, B9⟩ := L.disk (C8.then K9)
      have hs9 := K9.size
      have Bb9 : Below base w8 w9 := K9.below (fun i _ hi => (C8.ok.foot_lt hi).1) hb8
      have hkl9 : (pp.rs.take kk).length = kk := by rw [List.length_take]; omega
      have hxr : xr.map RecR.abs = pp.rs := L.both.says.rs
      have hxl : xl = pp.lasts := L.both.says.lasts
      have hxn : xr.length = pp.rs.length := by rw [← hxr, List.length_map]
      have hnb : xr.length ≤ 65536 := by
        obtain ⟨_, _, z3, z4, _, _, z7, _⟩ := L.both.L.sizes
        omega
      have hx0 : xe = (pp.e : Int) := by have := L.both.says.epoch; simp at this; exact this
      have hxh : xh = ((s / 2 : Nat) : Int) := by have := L.both.says.half; rw [L.half] at this; exact this
      have hxs : xs = (m.y.size : Int) := by have := L.both.says.size; rw [hmz, C8.size]; exact this
      have hmD2 : m.y.D = D := hmD.trans (C8.D.trans L.D)
      have hmz2 : m.y.size = Z := hmz.trans (C8.size.trans L.size)
      have hml2 : m.y.lp.length = N := hml.trans (C8.len.trans L.len)
      have hpe := L.e
      have hkk : kk ≤ 65536 := by omega
      have HX0 := Lib.hid hx0
      have HXH := Lib.hid hxh
      have HXS := Lib.hid hxs
      have HMD := Lib.hid hmD2
      have HMZ := Lib.hid hmz2
      have HML := Lib.hid hml2
      clear hx0 hxh hxs hmD2 hmz2 hml2
      have q0 : w9.cell? ⟨xb, 0, none⟩ = some (.slice xA xr.length xc) := k9.at_ rfl
      have q1' : w9.cell? ⟨xb, 1, none⟩ = some (.int .i64 (xl : Int)) := k9.at_ rfl
      have q2' : w9.cell? ⟨xb, 2, none⟩ = some (.int .i64 xh) := k9.at_ rfl
      have q3 : w9.cell? ⟨xb, 3, none⟩ = some (.int .i64 xs) := k9.at_ rfl
      have q4 : w9.cell? ⟨xb, 4, none⟩ = some (.int .i64 xe) := k9.at_ rfl
      have hb9 : base ≤ w9.heap.size := Nat.le_trans hb8 hs9
      have P9 := P8.below (Bb9.mono (by omega : w.heap.size + 1 ≤ base)) (by omega)
      have Q9 := Q8.below (Bb9.mono (by omega : w.heap.size + 1 + 1 ≤ base)) (by omega)
      have Bw9 : Below w.heap.size w w9 := Bw8.trans (Bb9.mono (by omega))
      have nb10 := Blk.new w9 31 #[.slice xA xr.length xc, .int .i64 (xl : Int), .int .i64 xh, .int .i64 xs, .int .i64 xe]
      have b10 : Below w9.heap.size w9 (w9.alloc (.cells #[.slice xA xr.length xc, .int .i64 (xl : Int), .int .i64 xh, .int .i64 xs, .int .i64 xe] 31)) := (Below.refl _ _).alloc (Nat.le_refl _) _
      have hl10 : w9.heap.size < (w9.alloc (.cells #[.slice xA xr.length xc, .int .i64 (xl : Int), .int .i64 xh, .int .i64 xs, .int .i64 xe] 31)).heap.size := by simp
      have HLm := Lib.hid Lm
      clear L X9 k9 K9 hmf hwt hxl hxr hxn q1 q2 hll hmD hmz hml C8 hfl P8 Q8 B9 Bw8 Bb8 Bb9 c2 c3 Lm
      go_wp2_with fail
      generalize w9.alloc (.cells #[.slice xA xr.length xc, .int .i64 (xl : Int), .int .i64 xh, .int .i64 xs, .int .i64 xe] 31) = w10 at *
      obtain ⟨yb, hyb⟩ : ∃ yb, w9.heap.size = yb := ⟨_, rfl⟩
      rw [hyb] at nb10 ⊢
      have AC := jall_n m _ kk hkl9 w10 base (HLm.out.below b10)
      (with_reducible refine AC.mono ?_)
      clear AC q0 q1' q2' q3 q4
      rintro _ w11 ⟨A3, cc3, xs3, rfl, hl3, ha3, r3, b11⟩
      have rv3 := own_rows r3 hl3
      have BC := back_calls xs3 kk hl3 A3 cc3 w11 rv3 (by omega)
      have HA3 := Lib.hid ha3
      have HL3 := Lib.hid hl3
      have nb11 := nb10.below b11 nb10.lt
      clear ha3 hl3 rv3
      go_wp2_with fail
      (with_reducible refine BC.mono ?_)
      clear BC
      rintro _ w12a ⟨A4, c4, rfl, o4, b12⟩
      have hs10 := b10.size
      have hs11 := b11.size
      have hs12 := b12.size
      have nb12 := nb11.below b12 nb11.lt
      have hfm : ∀ i, m.foot i → base ≤ i ∧ i < w9.heap.size := fun i hi => HLm.out.ok.foot_lt hi
      have L12a := ((HLm.out.below b10).below b11).below b12
      have hBJ : BothJ w12a base (fun i => i = yb) m ⟨A4, c4, xs3, kk, xh, xs, xe⟩ ⟨f, s / 2, 1 - pp.use, pp.e + 1, pp.rs.take kk, (pp.rs.take kk).length⟩ (-1) := by
        obtain ⟨A', c', e', h1', h2'⟩ := own_form o4
        injection e' with _ _ e3
        subst e3
        refine ⟨L12a, ⟨own_rvfN o4 (fun i hi => .inl (by
          rcases hi with hi | hi
          · have := (hfm i hi).2; omega
          · omega)), ?_, h2', fun r hr => ((r3.ks r hr).mono fun i _ hi => ?_).below b12⟩, ⟨HA3.out, hkl9.symm, HXH.out, HXS.out, ?_⟩, fun z hz => ((((HLm.out.ok.body z hz).mono (G := fun i => i = yb) fun i hi hf => by omega).below b10).below b11).below b12, fun i hi => by omega, fun i hi hf => by have := (hfm i hf).2; omega⟩
        · rw [HL3.out]; exact h1'
        · rcases hi with hi | hi
          · have := (hfm i hi).2; omega
          · omega
        · show xe = ((pp.e + 1 : Nat) : Int) + -1
          have := HX0.out
          omega
      have Bw12a : Below w.heap.size w w12a := ((Bw9.trans (b10.mono (by omega))).trans (b11.mono (by omega))).trans (b12.mono (by omega))
      have P12a := ((P9.below b10 (by omega)).below b11 (by omega)).below b12 (by omega)
      have Q12a := ((Q9.below b10 (by omega)).below b11 (by omega)).below b12 (by omega)
      have HL12 : Hid (LoopJ ((w12a.setCell ⟨yb, 0, none⟩ (.slice A4 kk c4)).setCell ⟨yb, 1, none⟩ (.int .i64 (kk : Int))) base yb m.G D N Z f (s / 2) 50 (-1) 0 m ⟨A4, c4, xs3, kk, xh, xs, xe⟩ ⟨f, s / 2, 1 - pp.use, pp.e + 1, pp.rs.take kk, (pp.rs.take kk).length⟩ ((w12a.setCell ⟨yb, 0, none⟩ (.slice A4 kk c4)).setCell ⟨yb, 1, none⟩ (.int .i64 (kk : Int)))) := by
        refine ⟨hBJ.store (((Kept.refl (fun i => i = yb) w12a).setCell (p := ⟨yb, 0, none⟩) (.inl rfl) _).setCell (p := ⟨yb, 1, none⟩) (.inl rfl) _), rfl, HMD.out, HMZ.out, HML.out, rfl, rfl, by show pp.e + 1 ≤ 50 + 0; omega, ?_, Below.refl _ _, by omega, by simp; omega⟩
        have := (nb12.set_ 0 (.slice A4 kk c4)).set_ 1 (.int .i64 (kk : Int))
        unfold XL.cells
        simp only [HL3.out]
        exact this
      have B12 : Below w.heap.size w ((w12a.setCell ⟨yb, 0, none⟩ (.slice A4 kk c4)).setCell ⟨yb, 1, none⟩ (.int .i64 (kk : Int))) := (Bw12a.setCell (by show w.heap.size ≤ yb; omega) _).setCell (by show w.heap.size ≤ yb; omega) _
      have P12 : Blk ((w12a.setCell ⟨yb, 0, none⟩ (.slice A4 kk c4)).setCell ⟨yb, 1, none⟩ (.int .i64 (kk : Int))) w.heap.size _ _ := (P12a.far (p := ⟨yb, 0, none⟩) (by show w.heap.size ≠ yb; omega) (.slice A4 kk c4)).far (p := ⟨yb, 1, none⟩) (by show w.heap.size ≠ yb; omega) (.int .i64 (kk : Int))
      have Q12 : Blk ((w12a.setCell ⟨yb, 0, none⟩ (.slice A4 kk c4)).setCell ⟨yb, 1, none⟩ (.int .i64 (kk : Int))) (w.heap.size + 1) _ _ := (Q12a.far (p := ⟨yb, 0, none⟩) (by show w.heap.size + 1 ≠ yb; omega) (.slice A4 kk c4)).far (p := ⟨yb, 1, none⟩) (by show w.heap.size + 1 ≠ yb; omega) (.int .i64 (kk : Int))
      have z0 : w12a.cell? ⟨yb, 0, none⟩ = some (.slice xA xr.length xc) := nb12.at_ rfl
      have z1 : w12a.cell? ⟨yb, 1, none⟩ = some (.int .i64 (xl : Int)) := nb12.at_ rfl
      have y0 := nb12.frozen 0
      have y1 := nb12.frozen 1
      have d1 : w12a.cell? ⟨w.heap.size + 1, 1, none⟩ = some (.slice Ab nb capb) := Q12a.at_ rfl
      have hne1 : w.heap.size + 1 ≠ yb := by omega
      have hne2 : yb ≠ w.heap.size + 1 := by omega
      have hby : base ≤ yb := by omega
      clear nb10 nb11 nb12 r3 o4 hBJ L12a P9 Q9 P12a Q12a b10 b11 b12 hfm Bw9 HX0 HXH HXS HMD HMZ HML hkl9 hnb br hxb
      go_wp2_with fail
      generalize (w12a.setCell ⟨yb, 0, none⟩ (.slice A4 kk c4)).setCell ⟨yb, 1, none⟩ (.int .i64 (kk : Int)) = w12 at *
      clear z0 z1 y0 y1 d1 hne1 hne2
      go_loopw [107] (fun i wr => ∃ (k : Nat) (jj : JL) (xx : XL) (pp : PJ), k ≤ nb ∧ i = .int .i64 (k : Int) ∧ LoopJ w12 base yb m.G D N Z f (s / 2) 50 (-1) k jj xx pp wr) (fun i _ => nb - (intOf i).toNat)
      case atStart => exact ⟨0, m, _, _, by omega, rfl, HL12.out⟩
      case round =>
        obtain ⟨k, jj, ⟨xA, xc, xr, xl, xh, xs, xe⟩, pp, hkn, rfl, L⟩ := hrel
        have br : Below w.heap.size w wr := B12.trans (L.bel.mono (by omega))
        by_cases hlt : k < nb
        · have dec : decide ((k : Int) < (nb : Int)) = true := decide_eq_true (by omega)
          have dec' : decide (k < nb) = true := decide_eq_true hlt
          obtain ⟨a, hak⟩ : ∃ a, lb[k]? = some a := ⟨_, List.getElem?_eq_getElem (by omega)⟩
          obtain ⟨g, off, hAA, hgl, a0, a1, a2, a3⟩ := act_at (hRb.below br) hak
          subst hAA
          have hra := hkb a (List.mem_of_getElem? hak)
          obtain ⟨ak, ⟨rk, rA, rc, rb⟩, af⟩ := a
          simp only at a0 a1 a2 a3 hra
          have b6 : Below wr.heap.size wr (wr.alloc (.cells #[.int .u8 (ak.toNat : Int), .int .u8 (rk.toNat : Int), .slice rA rb.length rc, .int .u8 (af.toNat : Int)] 52)) := (Below.refl _ _).alloc (Nat.le_refl _) _
          have Lz := L.below b6
          have hb6 : base ≤ (wr.alloc (.cells #[.int .u8 (ak.toNat : Int), .int .u8 (rk.toNat : Int), .slice rA rb.length rc, .int .u8 (af.toNat : Int)] 52)).heap.size := Nat.le_trans Lz.hw Lz.bel.size
          have q0 : (wr.alloc (.cells #[.int .u8 (ak.toNat : Int), .int .u8 (rk.toNat : Int), .slice rA rb.length rc, .int .u8 (af.toNat : Int)] 52)).cell? ⟨yb, 0, none⟩ = some (.slice xA xr.length xc) := Lz.blk.at_ rfl
          have q1 : (wr.alloc (.cells #[.int .u8 (ak.toNat : Int), .int .u8 (rk.toNat : Int), .slice rA rb.length rc, .int .u8 (af.toNat : Int)] 52)).cell? ⟨yb, 1, none⟩ = some (.int .i64 (xl : Int)) := Lz.blk.at_ rfl
          have q2 : (wr.alloc (.cells #[.int .u8 (ak.toNat : Int), .int .u8 (rk.toNat : Int), .slice rA rb.length rc, .int .u8 (af.toNat : Int)] 52)).cell? ⟨yb, 2, none⟩ = some (.int .i64 xh) := Lz.blk.at_ rfl
          have q3 : (wr.alloc (.cells #[.int .u8 (ak.toNat : Int), .int .u8 (rk.toNat : Int), .slice rA rb.length rc, .int .u8 (af.toNat : Int)] 52)).cell? ⟨yb, 3, none⟩ = some (.int .i64 xs) := Lz.blk.at_ rfl
          have q4 : (wr.alloc (.cells #[.int .u8 (ak.toNat : Int), .int .u8 (rk.toNat : Int), .slice rA rb.length rc, .int .u8 (af.toNat : Int)] 52)).cell? ⟨yb, 4, none⟩ = some (.int .i64 xe) := Lz.blk.at_ rfl
          have hxb0 := Lz.hx
          have DC : Calls Tryd.prog 19 #[.pointer (some ⟨jj.G, 0, none⟩), .agg #[.slice xA xr.length xc, .int .i64 (xl : Int), .int .i64 xh, .int .i64 xs, .int .i64 xe], .agg #[.int .u8 (ak.toNat : Int), .int .u8 (rk.toNat : Int), .slice rA rb.length rc, .int .u8 (af.toNat : Int)]] (wr.alloc (.cells #[.int .u8 (ak.toNat : Int), .int .u8 (rk.toNat : Int), .slice rA rb.length rc, .int .u8 (af.toNat : Int)] 52)) _ :=
            do_calls jj pp ⟨xA, xc, xr, xl, xh, xs, xe⟩ (-1) ⟨ak, ⟨rk, rA, rc, rb⟩, af⟩ (wr.alloc (.cells #[.int .u8 (ak.toNat : Int), .int .u8 (rk.toNat : Int), .slice rA rb.length rc, .int .u8 (af.toNat : Int)] 52)) base (fun i => i = yb) Lz.both (hT.below (br.trans (b6.mono br.size))) hb6 (by omega) (hra.apart (Nat.le_refl _) (br.trans (b6.mono br.size)) (fun i hi => by
              rcases hi with hi | hi
              · have := (Lz.both.L.ok.foot_lt hi).1
                omega
              · omega)) (by have := L.e; omega) (by omega) (by omega)
          rw [L.G] at DC
          have HL := Lib.hid L
          have HB := Lib.hid b6
          clear L Lz hra hak
          go_wp2_with fail
          (with_reducible refine DC.mono ?_)
          clear DC q0 q1 q2 q3 q4
          rintro _ w7 R
          obtain ⟨⟨yA, yc, yr, yl, yh, ys, ye⟩, rfl, blk7, _, hs7, j', HN⟩ := LoopJ.next HL.out HB.out R
          rw [XL.val_eq]
          have HN' : Hid (∃ jj xx pp, LoopJ w12 base yb m.G D N Z f (s / 2) 50 (-1) (k + 1) jj xx pp (((((w7.setCell ⟨yb, 0, none⟩ (.slice yA yr.length yc)).setCell ⟨yb, 1, none⟩ (.int .i64 (yl : Int))).setCell ⟨yb, 2, none⟩ (.int .i64 yh)).setCell ⟨yb, 3, none⟩ (.int .i64 ys)).setCell ⟨yb, 4, none⟩ (.int .i64 ye))) :=
            ⟨_, _, _, HN _ ((((((Kept.refl (fun i => i = yb) w7).setCell (p := ⟨yb, 0, none⟩) (.inl rfl) _).setCell (p := ⟨yb, 1, none⟩) (.inl rfl) _).setCell (p := ⟨yb, 2, none⟩) (.inl rfl) _).setCell (p := ⟨yb, 3, none⟩) (.inl rfl) _).setCell (p := ⟨yb, 4, none⟩) (.inl rfl) _)
              (((((blk7.set_ 0 _).set_ 1 _).set_ 2 _).set_ 3 _).set_ 4 _)⟩
          have z0 : w7.cell? ⟨yb, 0, none⟩ = some (.slice xA xr.length xc) := blk7.at_ rfl
          have z1 : w7.cell? ⟨yb, 1, none⟩ = some (.int .i64 (xl : Int)) := blk7.at_ rfl
          have z2 : w7.cell? ⟨yb, 2, none⟩ = some (.int .i64 xh) := blk7.at_ rfl
          have z3 : w7.cell? ⟨yb, 3, none⟩ = some (.int .i64 xs) := blk7.at_ rfl
          have z4 : w7.cell? ⟨yb, 4, none⟩ = some (.int .i64 xe) := blk7.at_ rfl
          have y0 := blk7.frozen 0
          have y1 := blk7.frozen 1
          have y2 := blk7.frozen 2
          have y3 := blk7.frozen 3
          have y4 := blk7.frozen 4
          clear HN blk7 HL HB R b6 a0 a1 a2 a3 hgl hb6
          go_wp2_with fail
          go_roundw
          case rel =>
            obtain ⟨jj', xx', pp', L'⟩ := HN'.out
            exact ⟨k + 1, jj', xx', pp', by omega, by go_num, L'⟩
          case measure => simp [intOf]; omega
        · obtain rfl : k = nb := by omega
          have dec : decide ((k : Int) < (k : Int)) = false := decide_eq_false (by omega)
          have dec' : decide (k < k) = false := decide_eq_false (by omega)
          have Pr := P12.below (L.bel.mono (by omega : w.heap.size + 1 ≤ base)) (by omega)
          have Qr := Q12.below (L.bel.mono (by omega : w.heap.size + 1 + 1 ≤ base)) (by omega)
          have c0 : wr.cell? ⟨w.heap.size + 1, 4, none⟩ = some (.slice K2 k2 kc2) := Qr.at_ rfl
          have c1 : wr.cell? ⟨w.heap.size + 1, 5, none⟩ = some (.int .i64 torn2) := Qr.at_ rfl
          have hbw : base ≤ wr.heap.size := Nat.le_trans L.hw L.bel.size
          have hfl : ∀ i, jj.y.foot i → base ≤ i := fun i hi => (L.both.L.ok.dk.foot_lt hi).1
          have CC := cut_calls jj.y kp2 K2 kc2 torn2 wr base L.both.L.ok.dk (by have := L.both.L.waits; omega) (by omega) (rv_far hR2 br (fun i hi => by have := hfl i hi; omega))
          rw [L.D, hk2] at CC
          go_wp2_with fail
          (with_reducible refine CC.mono ?_)
          clear CC c0 c1
          rintro _ w7 ⟨rfl, n7⟩
          obtain ⟨y7, C7⟩ := cut_state n7
          have OC := on_next y7 w7 base C7.ok
          rw [C7.D, L.D] at OC
          go_wp2_with fail
          (with_reducible refine OC.mono ?_)
          clear OC
          rintro _ w8 ⟨rfl, n8⟩
          obtain ⟨y8, C8⟩ := on_state C7 n8
          have hb8 : base ≤ w8.heap.size := Nat.le_trans hbw C8.kept.size
          have Bb8 := C8.lower L.both.L.ok.dk hbw
          have Bw8 : Below w.heap.size w w8 := br.trans (Bb8.mono (by omega))
          have P8 := Pr.below (Bb8.mono (by omega : w.heap.size + 1 ≤ base)) (by omega)
          have Q8 := Qr.below (Bb8.mono (by omega : w.heap.size + 1 + 1 ≤ base)) (by omega)
          have c2 : w8.cell? ⟨w.heap.size, 2, none⟩ = some (.int .i64 (f : Int)) := P8.at_ rfl
          have c3 : w8.cell? ⟨w.heap.size, 3, none⟩ = some (.int .i64 (s : Int)) := P8.at_ rfl
          have OB := reopen_calls (f := f) (s := s) C8 (by rw [L.len, L.size]; exact HQ.out) (L.cut kp2 torn2) L.both.L.u (by have := L.e; omega) (hT.below Bw8) hb8 (by omega)
          rw [L.D] at OB
          clear n7 n8 C7 Qr Pr
          go_wp2_with fail
          (with_reducible refine OB.mono ?_)
          clear OB
          rintro _ w9 ⟨m, kk, rfl, Lm, q1, q2, _, hmD, ⟨hmz, hml⟩, hwt, K9, hmf⟩
          have hll := q1 rfl
          obtain ⟨X9, k9, B9⟩ := L.disk (C8.then K9)
          have hs9 := K9.size
          have Bb9 : Below base w8 w9 := K9.below (fun i _ hi => (C8.ok.foot_lt hi).1) hb8
          have HB9 := Lib.hid (Bw8.trans (Bb9.mono (by omega)))
          have hkl9 : (pp.rs.take kk).length = kk := by rw [List.length_take]; omega
          have hxr : xr.map RecR.abs = pp.rs := L.both.says.rs
          have hxl : xl = pp.lasts := L.both.says.lasts
          have hxn : xr.length = pp.rs.length := by rw [← hxr, List.length_map]
          have hnb : xr.length ≤ 65536 := by
            obtain ⟨_, _, z3, z4, _, _, z7, _⟩ := L.both.L.sizes
            omega
          have AC := fun (w' : World) (b : Below w9.heap.size w9 w') => jall_n m _ kk hkl9 w' base (Lm.below b)
          have BK := fun (w' : World) (A : Option Addr) (c : Nat) (ys : List RecR) (hy : ys.length = kk) (hR : RV w' A (rC ys)) => back_calls ys kk hy A c w' hR (by omega)
          have GC := fun (w' : World) (b : Below w9.heap.size w9 w') (A : Option Addr) (c : Nat) (ys : List RecR) (hy : ys.length = kk) (hR : RV w' A (rC ys)) (hk : ∀ z ∈ ys, RecOK w' (fun _ => False) z) (ha : ys.map RecR.abs = pp.rs.take kk) =>
            xbegins_calls ys xr kk xr.length hy rfl A xA c xc (xl : Int) w' hR ((X9.below b).rd.rv) hk (X9.below b).ks (by omega) (by omega) (by omega) (by rw [ha, hxr])
          have HS : Hid (∀ wq, Below w9.heap.size w9 wq → (wq.cell? ⟨yb, 0, none⟩ = some (.slice xA xr.length xc) ∧ wq.cell? ⟨yb, 1, none⟩ = some (.int .i64 (xl : Int)))) :=
            fun wq b => have q := k9.below b k9.lt; ⟨q.at_ rfl, q.at_ rfl⟩
          have bd : Below w9.heap.size w9 w9.drew := (Below.refl _ _).drew
          have f1 := HS.out _ bd
          clear Lm K9 X9 k9 L hmf hwt hxl hxr hxn q1 q2 hll hkl9 hmD hmz hml hR hk hb c2 c3 C8 hfl P8 Q8 B9 Bw8 Bb8 Bb9
          go_wp2_with fail
          go_region_held (fun wq => wq.cell? ⟨yb, 0, none⟩ = some (.slice xA xr.length xc) ∧ wq.cell? ⟨yb, 1, none⟩ = some (.int .i64 (xl : Int))) (first | (with_reducible exact f1) | (with_reducible exact f3) | (with_reducible exact f4) | (with_reducible exact f5)) (first
            | (have _q := b3; go_at_call 26; (with_reducible refine (BK w3' A3 c3 xs3 hl3 rv3).mono ?_); rintro _ w4' ⟨A4, c4, rfl, o4, b4z⟩; have b4 := b3.trans (b4z.mono b3.size); have f4 := HS.out _ b4; have rv4 := (own_rvfN (F := fun _ => False) o4 (fun _ hk => hk.elim)).rv; have ok4 := fun z hz => (ok3 z hz).below b4z; clear b4z o4)
            | (have _q := b4; go_at_call 25; (with_reducible refine (GC w4' b4 A4 c4 xs3 hl3 rv4 ok4 ha3).mono ?_); rintro _ w5' ⟨rfl, b5z⟩; have b5 := b4.trans (b5z.mono b4.size); have f5 := HS.out _ b5; clear b5z)
            | (go_at_call 14; (with_reducible refine (AC _ bd).mono ?_); rintro _ w3' ⟨A3, c3, xs3, rfl, hl3z, ha3z, r3, b3z⟩; have b3 : Below w9.heap.size w9 w3' := ⟨b3z.os, b3z.tape, b3z.output, b3z.size, b3z.block⟩; have f3 := HS.out _ b3; have hl3 := hl3z; have rv3 := own_rows r3 hl3z; have ok3 : ∀ z ∈ xs3, RecOK w3' (fun _ => False) z := fun z hz => (r3.ks z hz).mono fun _ _ hk => hk.elim; have ha3 := ha3z; clear b3z hl3z ha3z))
          have HF := Lib.hid (HB9.out.trans (b5.mono HB9.out.size))
          clear AC BK GC HS f1 f3 f4 f5 b3 b4 b5 rv3 rv4 ok3 ok4 ha3 hl3 r3 bd
          go_wp2
          go_ret
          exact ⟨rfl, HF.out⟩
end Go.Proofs.YtpojlchikaffhaaDoor
