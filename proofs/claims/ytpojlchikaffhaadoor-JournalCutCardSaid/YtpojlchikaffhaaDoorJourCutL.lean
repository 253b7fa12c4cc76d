/-
  The statements' JournalCut, walked.
-/
import Derived.Test.YtpojlchikaffhaaDoorJourLoop
import Derived.Test.YtpojlchikaffhaaDoorJourWakes
import Derived.Test.YtpojlchikaffhaaDoorJMem
namespace Go.Proofs.YtpojlchikaffhaaDoor
open Go.RowKit DiskP SumP PageP JourP

set_option maxHeartbeats 3200000 in
theorem jourCut_walk (P : PlaceR) (l : List ActR) (n : Nat) (hn : l.length = n) (A : Option Addr) (cap : Nat) (w : World) (hT : Tab w) (hR : RV w A (aC l)) (hk : ∀ a ∈ l, RecOK w (fun _ => False) a.r) (hb : ∀ a ∈ l, a.r.body.length ≤ 140737488351232) (hl : n ≤ 9223372036854775807) (kp : List Bool) (kn : Nat) (hkn0 : kp.length = kn) (A2 : Option Addr) (cap2 : Nat) (torn : Int) (hR2 : RV w A2 (cL kp)) (hkl : kn ≤ 9223372036854775807) :
    Calls Tryd.prog 5 #[.agg P.cells, .slice A n cap, .agg #[.slice A2 kn cap2, .int .i64 torn]] w fun e w' => e = .returned (.bool true) ∧ Below w.heap.size w w' := by
  obtain ⟨pa, ps, pf, pn⟩ := P
  have hg := hT.lt
  have B1 : Below w.heap.size w ((w.alloc (.cells #[.int .i64 pa, .int .i64 ps, .int .i64 pf, .int .i64 pn] 23)).alloc (.cells #[.slice A2 kn cap2, .int .i64 torn] 60)) := ((Below.refl _ _).alloc (Nat.le_refl _) _).alloc (by simp) _
  have P1 : Blk ((w.alloc (.cells #[.int .i64 pa, .int .i64 ps, .int .i64 pf, .int .i64 pn] 23)).alloc (.cells #[.slice A2 kn cap2, .int .i64 torn] 60)) w.heap.size 23 #[.int .i64 pa, .int .i64 ps, .int .i64 pf, .int .i64 pn] := (Blk.new w 23 #[.int .i64 pa, .int .i64 ps, .int .i64 pf, .int .i64 pn]).alloc _
  have Q1 : Blk ((w.alloc (.cells #[.int .i64 pa, .int .i64 ps, .int .i64 pf, .int .i64 pn] 23)).alloc (.cells #[.slice A2 kn cap2, .int .i64 torn] 60)) (w.heap.size + 1) 60 #[.slice A2 kn cap2, .int .i64 torn] := by
    have := Blk.new (w.alloc (.cells #[.int .i64 pa, .int .i64 ps, .int .i64 pf, .int .i64 pn] 23)) 60 #[.slice A2 kn cap2, .int .i64 torn]
    simpa using this
  have WC := fun (w' : World) (b : Below w.heap.size w w') => wakes_calls w' (hT.below b)
  have SC : ∀ (w' : World), Below w.heap.size w w' → Calls Tryd.prog 10 #[.agg #[.int .i64 pa, .int .i64 ps, .int .i64 pf, .int .i64 pn], .slice A n cap] w' (RetSmall w' ⟨pa, ps, pf, pn⟩ l) := fun w' b => small_calls ⟨pa, ps, pf, pn⟩ l n hn A cap w' (hR.below b) hb hl
  have OC : ∀ (w' : World), Below w.heap.size w w' → pa ≤ 400 → ps ≤ 512 → pn ≤ 400 → Calls Tryd.prog 11 #[.agg #[.int .i64 pa, .int .i64 ps, .int .i64 pf, .int .i64 pn]] w' (RetO w' ⟨pa, ps, pf, pn⟩) := fun w' b h1 h2 h3 => lopen_calls ⟨pa, ps, pf, pn⟩ w' (hT.below b) h1 h2 h3
  show Calls Tryd.prog 5 #[.agg #[.int .i64 pa, .int .i64 ps, .int .i64 pf, .int .i64 pn], .slice A n cap, .agg #[.slice A2 kn cap2, .int .i64 torn]] w _
  go_enter Tryd.func5, Tryd.ntmps5
  go_wp2_with fail
  generalize ((w.alloc (.cells #[.int .i64 pa, .int .i64 ps, .int .i64 pf, .int .i64 pn] 23)).alloc (.cells #[.slice A2 kn cap2, .int .i64 torn] 60)) = w1 at *
  (with_reducible refine (WC w1 B1).mono ?_)
  clear WC
  rintro _ w2 ⟨rfl, b2⟩
  have B2 := B1.trans (b2.mono B1.size)
  have P2 := P1.below b2 P1.lt
  have Q2 := Q1.below b2 Q1.lt
  have c0 : w2.cell? ⟨w.heap.size, 0, none⟩ = some (.int .i64 pa) := P2.at_ rfl
  have c1 : w2.cell? ⟨w.heap.size, 1, none⟩ = some (.int .i64 ps) := P2.at_ rfl
  have c2 : w2.cell? ⟨w.heap.size, 2, none⟩ = some (.int .i64 pf) := P2.at_ rfl
  have c3 : w2.cell? ⟨w.heap.size, 3, none⟩ = some (.int .i64 pn) := P2.at_ rfl
  clear P1 Q1 b2
  go_wp2_with fail
  (with_reducible refine (SC w2 B2).mono ?_)
  clear SC
  rintro _ w3 ⟨(⟨rfl, hS⟩ | rfl), b3⟩
  rotate_left
  · clear OC
    have HF := Lib.hid (B2.trans (b3.mono B2.size))
    go_wp2_with fail
    go_ret
    exact ⟨rfl, HF.out⟩
  have Q3 := Q2.below b3 Q2.lt
  have qc : w3.cell? ⟨w.heap.size + 1, 0, none⟩ = some (.slice A2 kn cap2) := Q3.at_ rfl
  by_cases h500 : 500 < kn
  · have dk : decide (500 < kn) = true := decide_eq_true h500
    have dk' : decide (500 < (kn : Int)) = true := decide_eq_true (by omega)
    clear OC
    have HF := Lib.hid (B2.trans (b3.mono B2.size))
    go_wp2_with fail
    go_ret
    exact ⟨rfl, HF.out⟩
  have dk : decide (500 < kn) = false := decide_eq_false h500
  have dk' : decide (500 < (kn : Int)) = false := decide_eq_false (by omega)
  have B3 := B2.trans (b3.mono B2.size)
  have P3 := P2.below b3 P2.lt
  obtain ⟨_, hl40, h1, h2, h3⟩ := hS
  simp only at h1 h2 h3
  clear c0 c1 c2 c3
  have c0 : w3.cell? ⟨w.heap.size, 0, none⟩ = some (.int .i64 pa) := P3.at_ rfl
  have c1 : w3.cell? ⟨w.heap.size, 1, none⟩ = some (.int .i64 ps) := P3.at_ rfl
  have c2 : w3.cell? ⟨w.heap.size, 2, none⟩ = some (.int .i64 pf) := P3.at_ rfl
  have c3 : w3.cell? ⟨w.heap.size, 3, none⟩ = some (.int .i64 pn) := P3.at_ rfl
  go_wp2_with fail
  (with_reducible refine (OC w3 B3 h1 h2 h3).mono ?_)
  clear OC
  rintro _ w4 (⟨v0, rfl, b4⟩ | ⟨base, j, x, f, s, rfl, b4, hb1, hb2, BJ, hf, hs, hq, hlen, hsz⟩)
  · have HF := Lib.hid (B3.trans (b4.mono B3.size))
    go_wp2_with fail
    go_ret
    exact ⟨rfl, HF.out.alloc HF.out.size _⟩
  simp only at hf hs hq hlen hsz
  subst hf hs
  rw [hlen, hsz] at hq
  have HQ := Lib.hid hq
  have B4 := B3.trans (b4.mono B3.size)
  have hs3 := B3.size
  have hp3 := P3.lt
  have P4 := P3.below b4 P3.lt
  have Q4 := Q3.below b4 Q3.lt
  have hq3 := Q3.lt
  obtain ⟨xA, xc, xr, xl, xh, xs, xe⟩ := x
  rw [XL.val_eq]
  clear c0 c1 c2 c3 hlen hsz hq P2 P3 Q2 Q3 qc
  have nb5 := Blk.new w4 31 #[.slice xA xr.length xc, .int .i64 (xl : Int), .int .i64 xh, .int .i64 xs, .int .i64 xe]
  have b5 : Below w4.heap.size w4 (w4.alloc (.cells #[.slice xA xr.length xc, .int .i64 (xl : Int), .int .i64 xh, .int .i64 xs, .int .i64 xe] 31)) := (Below.refl _ _).alloc (Nat.le_refl _) _
  have hl5 : w4.heap.size < (w4.alloc (.cells #[.slice xA xr.length xc, .int .i64 (xl : Int), .int .i64 xh, .int .i64 xs, .int .i64 xe] 31)).heap.size := by simp
  go_wp2_with fail
  generalize w4.alloc (.cells #[.slice xA xr.length xc, .int .i64 (xl : Int), .int .i64 xh, .int .i64 xs, .int .i64 xe] 31) = w5 at *
  have B5 := B4.trans (b5.mono B4.size)
  have P5 := P4.below b5 P4.lt
  have Q5 := Q4.below b5 Q4.lt
  have HL0 := Lib.hid (LoopJ.start (f := f) (h := s / 2) (e0 := 1) BJ hb2 b5 hl5 nb5 rfl rfl rfl)
  have hs4 := b4.size
  clear BJ nb5 b5
  go_loopw [38] (fun i wr => ∃ (k : Nat) (jj : JL) (xx : XL) (pp : PJ), k ≤ n ∧ i = .int .i64 (k : Int) ∧ LoopJ w5 base w4.heap.size j.G j.y.D j.y.lp.length j.y.size f (s / 2) 1 0 k jj xx pp wr) (fun i _ => n - (intOf i).toNat)
  case atStart => exact ⟨0, j, _, _, by omega, rfl, HL0.out⟩
  case round =>
    obtain ⟨k, jj, ⟨xA, xc, xr, xl, xh, xs, xe⟩, pp, hkn, rfl, L⟩ := hrel
    have br : Below w.heap.size w wr := B5.trans (L.bel.mono (by omega))
    by_cases hlt : k < n
    · have dec : decide ((k : Int) < (n : Int)) = true := decide_eq_true (by omega)
      have dec' : decide (k < n) = true := decide_eq_true hlt
      obtain ⟨a, hak⟩ : ∃ a, l[k]? = some a := ⟨_, List.getElem?_eq_getElem (by omega)⟩
      obtain ⟨g, off, rfl, hgl, a0, a1, a2, a3⟩ := act_at (hR.below br) hak
      have hra := hk a (List.mem_of_getElem? hak)
      obtain ⟨ak, ⟨rk, rA, rc, rb⟩, af⟩ := a
      simp only at a0 a1 a2 a3 hra
      have b6 : Below wr.heap.size wr (wr.alloc (.cells #[.int .u8 (ak.toNat : Int), .int .u8 (rk.toNat : Int), .slice rA rb.length rc, .int .u8 (af.toNat : Int)] 52)) := (Below.refl _ _).alloc (Nat.le_refl _) _
      have L6 := L.below b6
      have hb6 : base ≤ (wr.alloc (.cells #[.int .u8 (ak.toNat : Int), .int .u8 (rk.toNat : Int), .slice rA rb.length rc, .int .u8 (af.toNat : Int)] 52)).heap.size := Nat.le_trans L6.hw L6.bel.size
      have q0 : (wr.alloc (.cells #[.int .u8 (ak.toNat : Int), .int .u8 (rk.toNat : Int), .slice rA rb.length rc, .int .u8 (af.toNat : Int)] 52)).cell? ⟨w4.heap.size, 0, none⟩ = some (.slice xA xr.length xc) := L6.blk.at_ rfl
      have q1 : (wr.alloc (.cells #[.int .u8 (ak.toNat : Int), .int .u8 (rk.toNat : Int), .slice rA rb.length rc, .int .u8 (af.toNat : Int)] 52)).cell? ⟨w4.heap.size, 1, none⟩ = some (.int .i64 (xl : Int)) := L6.blk.at_ rfl
      have q2 : (wr.alloc (.cells #[.int .u8 (ak.toNat : Int), .int .u8 (rk.toNat : Int), .slice rA rb.length rc, .int .u8 (af.toNat : Int)] 52)).cell? ⟨w4.heap.size, 2, none⟩ = some (.int .i64 xh) := L6.blk.at_ rfl
      have q3 : (wr.alloc (.cells #[.int .u8 (ak.toNat : Int), .int .u8 (rk.toNat : Int), .slice rA rb.length rc, .int .u8 (af.toNat : Int)] 52)).cell? ⟨w4.heap.size, 3, none⟩ = some (.int .i64 xs) := L6.blk.at_ rfl
      have q4 : (wr.alloc (.cells #[.int .u8 (ak.toNat : Int), .int .u8 (rk.toNat : Int), .slice rA rb.length rc, .int .u8 (af.toNat : Int)] 52)).cell? ⟨w4.heap.size, 4, none⟩ = some (.int .i64 xe) := L6.blk.at_ rfl
      have DC : Calls Tryd.prog 19 #[.pointer (some ⟨jj.G, 0, none⟩), .agg #[.slice xA xr.length xc, .int .i64 (xl : Int), .int .i64 xh, .int .i64 xs, .int .i64 xe], .agg #[.int .u8 (ak.toNat : Int), .int .u8 (rk.toNat : Int), .slice rA rb.length rc, .int .u8 (af.toNat : Int)]] (wr.alloc (.cells #[.int .u8 (ak.toNat : Int), .int .u8 (rk.toNat : Int), .slice rA rb.length rc, .int .u8 (af.toNat : Int)] 52)) _ :=
        do_calls jj pp ⟨xA, xc, xr, xl, xh, xs, xe⟩ 0 ⟨ak, ⟨rk, rA, rc, rb⟩, af⟩ (wr.alloc (.cells #[.int .u8 (ak.toNat : Int), .int .u8 (rk.toNat : Int), .slice rA rb.length rc, .int .u8 (af.toNat : Int)] 52)) base (fun i => i = w4.heap.size) L6.both (hT.below (br.trans (b6.mono br.size))) hb6 (by omega) (hra.apart (Nat.le_refl _) (br.trans (b6.mono br.size)) (fun i hi => by
          rcases hi with hi | hi
          · have := (L6.both.L.ok.foot_lt hi).1
            omega
          · omega)) (by have := L.e; omega) (by omega) (by omega)
      rw [L.G] at DC
      have HL := Lib.hid L
      have HB := Lib.hid b6
      clear L L6 hra hak
      go_wp2_with fail
      (with_reducible refine DC.mono ?_)
      clear DC q0 q1 q2 q3 q4
      rintro _ w7 R
      obtain ⟨⟨yA, yc, yr, yl, yh, ys, ye⟩, rfl, blk7, _, hs7, j', HN⟩ := LoopJ.next HL.out HB.out R
      rw [XL.val_eq]
      have HN' : Hid (∃ jj xx pp, LoopJ w5 base w4.heap.size j.G j.y.D j.y.lp.length j.y.size f (s / 2) 1 0 (k + 1) jj xx pp (((((w7.setCell ⟨w4.heap.size, 0, none⟩ (.slice yA yr.length yc)).setCell ⟨w4.heap.size, 1, none⟩ (.int .i64 (yl : Int))).setCell ⟨w4.heap.size, 2, none⟩ (.int .i64 yh)).setCell ⟨w4.heap.size, 3, none⟩ (.int .i64 ys)).setCell ⟨w4.heap.size, 4, none⟩ (.int .i64 ye))) :=
        ⟨_, _, _, HN _ ((((((Kept.refl (fun i => i = w4.heap.size) w7).setCell (p := ⟨w4.heap.size, 0, none⟩) (.inl rfl) _).setCell (p := ⟨w4.heap.size, 1, none⟩) (.inl rfl) _).setCell (p := ⟨w4.heap.size, 2, none⟩) (.inl rfl) _).setCell (p := ⟨w4.heap.size, 3, none⟩) (.inl rfl) _).setCell (p := ⟨w4.heap.size, 4, none⟩) (.inl rfl) _)
          (((((blk7.set_ 0 _).set_ 1 _).set_ 2 _).set_ 3 _).set_ 4 _)⟩
      have z0 : w7.cell? ⟨w4.heap.size, 0, none⟩ = some (.slice xA xr.length xc) := blk7.at_ rfl
      have z1 : w7.cell? ⟨w4.heap.size, 1, none⟩ = some (.int .i64 (xl : Int)) := blk7.at_ rfl
      have z2 : w7.cell? ⟨w4.heap.size, 2, none⟩ = some (.int .i64 xh) := blk7.at_ rfl
      have z3 : w7.cell? ⟨w4.heap.size, 3, none⟩ = some (.int .i64 xs) := blk7.at_ rfl
      have z4 : w7.cell? ⟨w4.heap.size, 4, none⟩ = some (.int .i64 xe) := blk7.at_ rfl
      have y0 := blk7.frozen 0
      have y1 := blk7.frozen 1
      have y2 := blk7.frozen 2
      have y3 := blk7.frozen 3
      have y4 := blk7.frozen 4
      clear HN blk7 HL HB R b6 a0 a1 a2 a3 hgl hb6
      go_wp2_with fail
      go_roundw
      case rel =>
        obtain ⟨jj', xx', pp', L'⟩ := HN'.out
        exact ⟨k + 1, jj', xx', pp', by omega, by go_num, L'⟩
      case measure => simp [intOf]; omega
    · obtain rfl : k = n := by omega
      have dec : decide ((k : Int) < (k : Int)) = false := decide_eq_false (by omega)
      have dec' : decide (k < k) = false := decide_eq_false (by omega)
      have Pr := P5.below (L.bel.mono (by omega : w.heap.size + 1 ≤ base)) (by omega)
      have Qr := Q5.below (L.bel.mono (by omega : w.heap.size + 1 + 1 ≤ base)) (by omega)
      have c0 : wr.cell? ⟨w.heap.size + 1, 0, none⟩ = some (.slice A2 kn cap2) := Qr.at_ rfl
      have c1 : wr.cell? ⟨w.heap.size + 1, 1, none⟩ = some (.int .i64 torn) := Qr.at_ rfl
      have hbw : base ≤ wr.heap.size := Nat.le_trans L.hw L.bel.size
      have hfl : ∀ i, jj.y.foot i → base ≤ i := fun i hi => (L.both.L.ok.dk.foot_lt hi).1
      have hrc : RVF wr jj.y.foot A2 (cL kp) := rv_far hR2 br (fun i hi => by have := hfl i hi; omega)
      have CC := cut_calls jj.y kp A2 cap2 torn wr base L.both.L.ok.dk (by have := L.both.L.waits; omega) (by omega) hrc
      rw [L.D, hkn0] at CC
      have HB5 := Lib.hid B5
      clear P4 Q4 B1 B2 B3 B4 B5 b3 b4 HL0 hl5
      go_wp2_with fail
      (with_reducible refine CC.mono ?_)
      clear CC c0 c1
      rintro _ w7 ⟨rfl, n7⟩
      obtain ⟨y7, C7⟩ := cut_state n7
      have OC := on_next y7 w7 base C7.ok
      rw [C7.D, L.D] at OC
      go_wp2_with fail
      (with_reducible refine OC.mono ?_)
      clear OC
      rintro _ w8 ⟨rfl, n8⟩
      obtain ⟨y8, C8⟩ := on_state C7 n8
      have hb8 : base ≤ w8.heap.size := Nat.le_trans hbw C8.kept.size
      have b8 : Below base w5 w8 := L.bel.trans (C8.lower L.both.L.ok.dk hbw)
      have Bw8 : Below w.heap.size w w8 := br.trans ((C8.lower L.both.L.ok.dk hbw).mono (by omega))
      have P8 := P5.below (b8.mono (by omega : w.heap.size + 1 ≤ base)) (by omega)
      have c2 : w8.cell? ⟨w.heap.size, 2, none⟩ = some (.int .i64 (f : Int)) := P8.at_ rfl
      have c3 : w8.cell? ⟨w.heap.size, 3, none⟩ = some (.int .i64 (s : Int)) := P8.at_ rfl
      have OB := reopen_calls (f := f) (s := s) C8 (by rw [L.len, L.size]; exact HQ.out) (L.cut kp torn) L.both.L.u (by have := L.e; omega) (hT.below Bw8) hb8 (by omega)
      rw [L.D] at OB
      clear n7 n8 C7 Qr P5 Q5
      go_wp2_with fail
      (with_reducible refine OB.mono ?_)
      clear OB
      rintro _ w9 ⟨m, kk, rfl, Lm, q1, q2, _, hmD, ⟨hmz, hml⟩, hwt, K9, hmf⟩
      have hll := q1 rfl
      obtain ⟨X9, k9, B9⟩ := L.disk (C8.then K9)
      have HB9 := Lib.hid (HB5.out.trans (B9.mono (by omega)))
      have hkl9 : (pp.rs.take kk).length = kk := by rw [List.length_take]; omega
      have hxr : xr.map RecR.abs = pp.rs := L.both.says.rs
      have hxl : xl = pp.lasts := L.both.says.lasts
      have hxn : xr.length = pp.rs.length := by rw [← hxr, List.length_map]
      have hnb : xr.length ≤ 65536 := by
        obtain ⟨_, _, z3, z4, _, _, z7, _⟩ := L.both.L.sizes
        omega
      have AC := fun (w' : World) (b : Below w9.heap.size w9 w') => jall_n m _ kk hkl9 w' base (Lm.below b)
      have BK := fun (w' : World) (A : Option Addr) (c : Nat) (ys : List RecR) (hy : ys.length = kk) (hR : RV w' A (rC ys)) => back_calls ys kk hy A c w' hR (by omega)
      have GC := fun (w' : World) (b : Below w9.heap.size w9 w') (A : Option Addr) (c : Nat) (ys : List RecR) (hy : ys.length = kk) (hR : RV w' A (rC ys)) (hk : ∀ z ∈ ys, RecOK w' (fun _ => False) z) (ha : ys.map RecR.abs = pp.rs.take kk) =>
        xbegins_calls ys xr kk xr.length hy rfl A xA c xc (xl : Int) w' hR ((X9.below b).rd.rv) hk (X9.below b).ks (by omega) (by omega) (by omega) (by rw [ha, hxr])
      have HS : Hid (∀ wq, Below w9.heap.size w9 wq → (wq.cell? ⟨w4.heap.size, 0, none⟩ = some (.slice xA xr.length xc) ∧ wq.cell? ⟨w4.heap.size, 1, none⟩ = some (.int .i64 (xl : Int)))) :=
        fun wq b => have q := k9.below b k9.lt; ⟨q.at_ rfl, q.at_ rfl⟩
      have bd : Below w9.heap.size w9 w9.drew := (Below.refl _ _).drew
      have f1 := HS.out _ bd
      clear Lm K9 X9 k9 L hmf hwt hxl hxr hxn q1 q2 hll hkl9 hmD hmz hml hR hk hb c2 c3 C8 hrc hR2 hfl P8 Pr B9 Bw8 b8
      go_wp2_with fail
      go_region_held (fun wq => wq.cell? ⟨w4.heap.size, 0, none⟩ = some (.slice xA xr.length xc) ∧ wq.cell? ⟨w4.heap.size, 1, none⟩ = some (.int .i64 (xl : Int))) (first | (with_reducible exact f1) | (with_reducible exact f3) | (with_reducible exact f4) | (with_reducible exact f5)) (first
        | (have _q := b3; go_at_call 26; (with_reducible refine (BK w3' A3 c3 xs3 hl3 rv3).mono ?_); rintro _ w4' ⟨A4, c4, rfl, o4, b4z⟩; have b4 := b3.trans (b4z.mono b3.size); have f4 := HS.out _ b4; have rv4 := (own_rvfN (F := fun _ => False) o4 (fun _ hk => hk.elim)).rv; have ok4 := fun z hz => (ok3 z hz).below b4z; clear b4z o4)
        | (have _q := b4; go_at_call 25; (with_reducible refine (GC w4' b4 A4 c4 xs3 hl3 rv4 ok4 ha3).mono ?_); rintro _ w5' ⟨rfl, b5z⟩; have b5 := b4.trans (b5z.mono b4.size); have f5 := HS.out _ b5; clear b5z)
        | (go_at_call 14; (with_reducible refine (AC _ bd).mono ?_); rintro _ w3' ⟨A3, c3, xs3, rfl, hl3z, ha3z, r3, b3z⟩; have b3 : Below w9.heap.size w9 w3' := ⟨b3z.os, b3z.tape, b3z.output, b3z.size, b3z.block⟩; have f3 := HS.out _ b3; have hl3 := hl3z; have rv3 := own_rows r3 hl3z; have ok3 : ∀ z ∈ xs3, RecOK w3' (fun _ => False) z := fun z hz => (r3.ks z hz).mono fun _ _ hk => hk.elim; have ha3 := ha3z; clear b3z hl3z ha3z))
      have HF := Lib.hid (HB9.out.trans (b5.mono HB9.out.size))
      clear AC BK GC HS f1 f3 f4 f5 b3 b4 b5 rv3 rv4 ok3 ok4 ha3 hl3 r3 bd
      go_wp2
      go_ret
      exact ⟨rfl, HF.out⟩
end Go.Proofs.YtpojlchikaffhaaDoor
