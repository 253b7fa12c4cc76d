/-
  The statements' JournalOpens, walked.
-/
import Derived.Test.YtpojlchikaffhaaDoorJourLoop
import Derived.Test.YtpojlchikaffhaaDoorJourWakes
import Derived.Test.YtpojlchikaffhaaDoorDiskWaits
namespace Go.Proofs.YtpojlchikaffhaaDoor
open Go.RowKit DiskP SumP PageP JourP

set_option maxHeartbeats 3200000 in
theorem jourOpens_walk (P : PlaceR) (l : List ActR) (n : Nat) (hn : l.length = n) (A : Option Addr) (cap : Nat) (w : World) (hT : Tab w) (hR : RV w A (aC l)) (hk : ∀ a ∈ l, RecOK w (fun _ => False) a.r) (hb : ∀ a ∈ l, a.r.body.length ≤ 140737488351232) (hl : n ≤ 9223372036854775807) :
    Calls Tryd.prog 8 #[.agg P.cells, .slice A n cap] w fun e w' => e = .returned (.bool true) ∧ Below w.heap.size w w' := by
  obtain ⟨pa, ps, pf, pn⟩ := P
  have hg := hT.lt
  have B1 : Below w.heap.size w (w.alloc (.cells #[.int .i64 pa, .int .i64 ps, .int .i64 pf, .int .i64 pn] 23)) := (Below.refl _ _).alloc (Nat.le_refl _) _
  have P1 : Blk (w.alloc (.cells #[.int .i64 pa, .int .i64 ps, .int .i64 pf, .int .i64 pn] 23)) w.heap.size 23 #[.int .i64 pa, .int .i64 ps, .int .i64 pf, .int .i64 pn] := Blk.new w 23 #[.int .i64 pa, .int .i64 ps, .int .i64 pf, .int .i64 pn]
  have WC := fun (w' : World) (b : Below w.heap.size w w') => wakes_calls w' (hT.below b)
  have SC : ∀ (w' : World), Below w.heap.size w w' → Calls Tryd.prog 10 #[.agg #[.int .i64 pa, .int .i64 ps, .int .i64 pf, .int .i64 pn], .slice A n cap] w' (RetSmall w' ⟨pa, ps, pf, pn⟩ l) := fun w' b => small_calls ⟨pa, ps, pf, pn⟩ l n hn A cap w' (hR.below b) hb hl
  have OC : ∀ (w' : World), Below w.heap.size w w' → pa ≤ 400 → ps ≤ 512 → pn ≤ 400 → Calls Tryd.prog 11 #[.agg #[.int .i64 pa, .int .i64 ps, .int .i64 pf, .int .i64 pn]] w' (RetO w' ⟨pa, ps, pf, pn⟩) := fun w' b h1 h2 h3 => lopen_calls ⟨pa, ps, pf, pn⟩ w' (hT.below b) h1 h2 h3
  show Calls Tryd.prog 8 #[.agg #[.int .i64 pa, .int .i64 ps, .int .i64 pf, .int .i64 pn], .slice A n cap] w _
  go_enter Tryd.func8, Tryd.ntmps8
  go_wp2_with fail
  generalize (w.alloc (.cells #[.int .i64 pa, .int .i64 ps, .int .i64 pf, .int .i64 pn] 23)) = w1 at *
  (with_reducible refine (WC w1 B1).mono ?_)
  clear WC
  rintro _ w2 ⟨rfl, b2⟩
  have B2 := B1.trans (b2.mono B1.size)
  have P2 := P1.below b2 P1.lt
  have c0 : w2.cell? ⟨w.heap.size, 0, none⟩ = some (.int .i64 pa) := P2.at_ rfl
  have c1 : w2.cell? ⟨w.heap.size, 1, none⟩ = some (.int .i64 ps) := P2.at_ rfl
  have c2 : w2.cell? ⟨w.heap.size, 2, none⟩ = some (.int .i64 pf) := P2.at_ rfl
  have c3 : w2.cell? ⟨w.heap.size, 3, none⟩ = some (.int .i64 pn) := P2.at_ rfl
  clear P1 b2
  go_wp2_with fail
  (with_reducible refine (SC w2 B2).mono ?_)
  clear SC
  rintro _ w3 ⟨(⟨rfl, hS⟩ | rfl), b3⟩
  rotate_left
  · clear OC
    have HF := Lib.hid (B2.trans (b3.mono B2.size))
    go_wp2_with fail
    go_ret
    exact ⟨rfl, HF.out⟩
  have B3 := B2.trans (b3.mono B2.size)
  have P3 := P2.below b3 P2.lt
  obtain ⟨_, hl40, h1, h2, h3⟩ := hS
  simp only at h1 h2 h3
  clear c0 c1 c2 c3
  have c0 : w3.cell? ⟨w.heap.size, 0, none⟩ = some (.int .i64 pa) := P3.at_ rfl
  have c1 : w3.cell? ⟨w.heap.size, 1, none⟩ = some (.int .i64 ps) := P3.at_ rfl
  have c2 : w3.cell? ⟨w.heap.size, 2, none⟩ = some (.int .i64 pf) := P3.at_ rfl
  have c3 : w3.cell? ⟨w.heap.size, 3, none⟩ = some (.int .i64 pn) := P3.at_ rfl
  go_wp2_with fail
  (with_reducible refine (OC w3 B3 h1 h2 h3).mono ?_)
  clear OC
  rintro _ w4 (⟨v0, rfl, b4⟩ | ⟨base, j, x, f, s, rfl, b4, hb1, hb2, BJ, hf, hs, hq, hlen, hsz⟩)
  · have HF := Lib.hid (B3.trans (b4.mono B3.size))
    go_wp2_with fail
    go_ret
    exact ⟨rfl, HF.out.alloc HF.out.size _⟩
  simp only at hf hs hq hlen hsz
  subst hf hs
  rw [hlen, hsz] at hq
  have HQ := Lib.hid hq
  have B4 := B3.trans (b4.mono B3.size)
  have hs3 := B3.size
  have hp3 := P3.lt
  have P4 := P3.below b4 P3.lt
  obtain ⟨xA, xc, xr, xl, xh, xs, xe⟩ := x
  rw [XL.val_eq]
  clear c0 c1 c2 c3 hlen hsz hq P2 P3
  have nb5 := Blk.new w4 31 #[.slice xA xr.length xc, .int .i64 (xl : Int), .int .i64 xh, .int .i64 xs, .int .i64 xe]
  have b5 : Below w4.heap.size w4 (w4.alloc (.cells #[.slice xA xr.length xc, .int .i64 (xl : Int), .int .i64 xh, .int .i64 xs, .int .i64 xe] 31)) := (Below.refl _ _).alloc (Nat.le_refl _) _
  have hl5 : w4.heap.size < (w4.alloc (.cells #[.slice xA xr.length xc, .int .i64 (xl : Int), .int .i64 xh, .int .i64 xs, .int .i64 xe] 31)).heap.size := by simp
  go_wp2_with fail
  generalize w4.alloc (.cells #[.slice xA xr.length xc, .int .i64 (xl : Int), .int .i64 xh, .int .i64 xs, .int .i64 xe] 31) = w5 at *
  have B5 := B4.trans (b5.mono B4.size)
  have P5 := P4.below b5 P4.lt
  have HL0 := Lib.hid (LoopJ.start (f := f) (h := s / 2) (e0 := 1) BJ hb2 b5 hl5 nb5 rfl rfl rfl)
  have hs4 := b4.size
  clear BJ nb5 b5
  go_loopw [30] (fun i wr => ∃ (k : Nat) (jj : JL) (xx : XL) (pp : PJ), k ≤ n ∧ i = .int .i64 (k : Int) ∧ LoopJ w5 base w4.heap.size j.G j.y.D j.y.lp.length j.y.size f (s / 2) 1 0 k jj xx pp wr) (fun i _ => n - (intOf i).toNat)
  case atStart => exact ⟨0, j, _, _, by omega, rfl, HL0.out⟩
  case round =>
    obtain ⟨k, jj, ⟨xA, xc, xr, xl, xh, xs, xe⟩, pp, hkn, rfl, L⟩ := hrel
    have br : Below w.heap.size w wr := B5.trans (L.bel.mono (by omega))
    by_cases hlt : k < n
    · have dec : decide ((k : Int) < (n : Int)) = true := decide_eq_true (by omega)
      have dec' : decide (k < n) = true := decide_eq_true hlt
      obtain ⟨a, hak⟩ : ∃ a, l[k]? = some a := ⟨_, List.getElem?_eq_getElem (by omega)⟩
      obtain ⟨g, off, rfl, hgl, a0, a1, a2, a3⟩ := act_at (hR.below br) hak
      have hra := hk a (List.mem_of_getElem? hak)
      obtain ⟨ak, ⟨rk, rA, rc, rb⟩, af⟩ := a
      simp only at a0 a1 a2 a3 hra
      have b6 : Below wr.heap.size wr (wr.alloc (.cells #[.int .u8 (ak.toNat : Int), .int .u8 (rk.toNat : Int), .slice rA rb.length rc, .int .u8 (af.toNat : Int)] 52)) := (Below.refl _ _).alloc (Nat.le_refl _) _
      have L6 := L.below b6
      have hb6 : base ≤ (wr.alloc (.cells #[.int .u8 (ak.toNat : Int), .int .u8 (rk.toNat : Int), .slice rA rb.length rc, .int .u8 (af.toNat : Int)] 52)).heap.size := Nat.le_trans L6.hw L6.bel.size
      have q0 : (wr.alloc (.cells #[.int .u8 (ak.toNat : Int), .int .u8 (rk.toNat : Int), .slice rA rb.length rc, .int .u8 (af.toNat : Int)] 52)).cell? ⟨w4.heap.size, 0, none⟩ = some (.slice xA xr.length xc) := L6.blk.at_ rfl
      have q1 : (wr.alloc (.cells #[.int .u8 (ak.toNat : Int), .int .u8 (rk.toNat : Int), .slice rA rb.length rc, .int .u8 (af.toNat : Int)] 52)).cell? ⟨w4.heap.size, 1, none⟩ = some (.int .i64 (xl : Int)) := L6.blk.at_ rfl
      have q2 : (wr.alloc (.cells #[.int .u8 (ak.toNat : Int), .int .u8 (rk.toNat : Int), .slice rA rb.length rc, .int .u8 (af.toNat : Int)] 52)).cell? ⟨w4.heap.size, 2, none⟩ = some (.int .i64 xh) := L6.blk.at_ rfl
      have q3 : (wr.alloc (.cells #[.int .u8 (ak.toNat : Int), .int .u8 (rk.toNat : Int), .slice rA rb.length rc, .int .u8 (af.toNat : Int)] 52)).cell? ⟨w4.heap.size, 3, none⟩ = some (.int .i64 xs) := L6.blk.at_ rfl
      have q4 : (wr.alloc (.cells #[.int .u8 (ak.toNat : Int), .int .u8 (rk.toNat : Int), .slice rA rb.length rc, .int .u8 (af.toNat : Int)] 52)).cell? ⟨w4.heap.size, 4, none⟩ = some (.int .i64 xe) := L6.blk.at_ rfl
      have DC : Calls Tryd.prog 19 #[.pointer (some ⟨jj.G, 0, none⟩), .agg #[.slice xA xr.length xc, .int .i64 (xl : Int), .int .i64 xh, .int .i64 xs, .int .i64 xe], .agg #[.int .u8 (ak.toNat : Int), .int .u8 (rk.toNat : Int), .slice rA rb.length rc, .int .u8 (af.toNat : Int)]] (wr.alloc (.cells #[.int .u8 (ak.toNat : Int), .int .u8 (rk.toNat : Int), .slice rA rb.length rc, .int .u8 (af.toNat : Int)] 52)) _ :=
        do_calls jj pp ⟨xA, xc, xr, xl, xh, xs, xe⟩ 0 ⟨ak, ⟨rk, rA, rc, rb⟩, af⟩ (wr.alloc (.cells #[.int .u8 (ak.toNat : Int), .int .u8 (rk.toNat : Int), .slice rA rb.length rc, .int .u8 (af.toNat : Int)] 52)) base (fun i => i = w4.heap.size) L6.both (hT.below (br.trans (b6.mono br.size))) hb6 (by omega) (hra.apart (Nat.le_refl _) (br.trans (b6.mono br.size)) (fun i hi => by
          rcases hi with hi | hi
          · have := (L6.both.L.ok.foot_lt hi).1
            omega
          · omega)) (by have := L.e; omega) (by omega) (by omega)
      rw [L.G] at DC
      have HL := Lib.hid L
      have HB := Lib.hid b6
      clear L L6 hra hak
      go_wp2_with fail
      (with_reducible refine DC.mono ?_)
      clear DC q0 q1 q2 q3 q4
      rintro _ w7 R
      obtain ⟨⟨yA, yc, yr, yl, yh, ys, ye⟩, rfl, blk7, _, hs7, j', HN⟩ := LoopJ.next HL.out HB.out R
      rw [XL.val_eq]
      have HN' : Hid (∃ jj xx pp, LoopJ w5 base w4.heap.size j.G j.y.D j.y.lp.length j.y.size f (s / 2) 1 0 (k + 1) jj xx pp (((((w7.setCell ⟨w4.heap.size, 0, none⟩ (.slice yA yr.length yc)).setCell ⟨w4.heap.size, 1, none⟩ (.int .i64 (yl : Int))).setCell ⟨w4.heap.size, 2, none⟩ (.int .i64 yh)).setCell ⟨w4.heap.size, 3, none⟩ (.int .i64 ys)).setCell ⟨w4.heap.size, 4, none⟩ (.int .i64 ye))) :=
        ⟨_, _, _, HN _ ((((((Kept.refl (fun i => i = w4.heap.size) w7).setCell (p := ⟨w4.heap.size, 0, none⟩) (.inl rfl) _).setCell (p := ⟨w4.heap.size, 1, none⟩) (.inl rfl) _).setCell (p := ⟨w4.heap.size, 2, none⟩) (.inl rfl) _).setCell (p := ⟨w4.heap.size, 3, none⟩) (.inl rfl) _).setCell (p := ⟨w4.heap.size, 4, none⟩) (.inl rfl) _)
          (((((blk7.set_ 0 _).set_ 1 _).set_ 2 _).set_ 3 _).set_ 4 _)⟩
      have z0 : w7.cell? ⟨w4.heap.size, 0, none⟩ = some (.slice xA xr.length xc) := blk7.at_ rfl
      have z1 : w7.cell? ⟨w4.heap.size, 1, none⟩ = some (.int .i64 (xl : Int)) := blk7.at_ rfl
      have z2 : w7.cell? ⟨w4.heap.size, 2, none⟩ = some (.int .i64 xh) := blk7.at_ rfl
      have z3 : w7.cell? ⟨w4.heap.size, 3, none⟩ = some (.int .i64 xs) := blk7.at_ rfl
      have z4 : w7.cell? ⟨w4.heap.size, 4, none⟩ = some (.int .i64 xe) := blk7.at_ rfl
      have y0 := blk7.frozen 0
      have y1 := blk7.frozen 1
      have y2 := blk7.frozen 2
      have y3 := blk7.frozen 3
      have y4 := blk7.frozen 4
      clear HN blk7 HL HB R b6 a0 a1 a2 a3 hgl hb6
      go_wp2_with fail
      go_roundw
      case rel =>
        obtain ⟨jj', xx', pp', L'⟩ := HN'.out
        exact ⟨k + 1, jj', xx', pp', by omega, by go_num, L'⟩
      case measure => simp [intOf]; omega
    · obtain rfl : k = n := by omega
      have dec : decide ((k : Int) < (k : Int)) = false := decide_eq_false (by omega)
      have dec' : decide (k < k) = false := decide_eq_false (by omega)
      have Pr := P5.below (L.bel.mono (by omega : w.heap.size + 1 ≤ base)) (by omega)
      have c2 : wr.cell? ⟨w.heap.size, 2, none⟩ = some (.int .i64 (f : Int)) := Pr.at_ rfl
      have c3 : wr.cell? ⟨w.heap.size, 3, none⟩ = some (.int .i64 (s : Int)) := Pr.at_ rfl
      have hbw : base ≤ wr.heap.size := Nat.le_trans L.hw L.bel.size
      have OB := jopen_dam jj.y f s pp.use pp.e pp.rs pp.rs.length wr base L.both.L.ok.dk (by rw [L.len, L.size]; exact HQ.out) L.dam L.both.L.u (by have := L.e; omega) (hT.below br) hbw (by omega)
      rw [L.D] at OB
      have HB5 := Lib.hid B5
      clear P4 P5 B1 B2 B3 B4 B5 b3 b4 HL0 hl5
      go_wp2_with fail
      (with_reducible refine OB.mono ?_)
      clear OB
      rintro _ w9 ⟨m, kk, rfl, Lm, q1, q2, _, hmD, ⟨hmz, hml⟩, hwt, K9, hmf⟩
      obtain rfl : kk = pp.rs.length := by have := q1 rfl; omega
      rw [List.take_length] at Lm
      obtain ⟨X9, k9, B9⟩ := L.disk K9
      have HB9 := Lib.hid (HB5.out.trans (B9.mono (by omega)))
      obtain ⟨z1, z2, z3, z4, z5, (z6 : 1 + sumNd m.y.size pp.rs ≤ s / 2), (z7 : pp.rs.length ≤ s / 2), z8⟩ := Lm.sizes
      have hsz9 := L.both.says
      have hxe : xe = (pp.e : Int) := by have := hsz9.epoch; simp at this; exact this
      have hme : m.epoch = xe + 1 := by rw [Lm.fe, hxe]; rfl
      have s1 : IntKind.i64.wrap (xe + 1) = xe + 1 := by have := L.e; rw [IntKind.wrap_i64]; omega
      have hxr : xr.map RecR.abs = pp.rs := hsz9.rs
      have hzz : m.y.size = jj.y.size := hmz
      have hw0 : m.y.wp.length = 0 := by rw [wlen, hwt]; rfl
      have SM : ∀ w', Below w9.heap.size w9 w' → Calls Tryd.prog 15 #[.pointer (some ⟨m.G, 0, none⟩), .agg #[.slice xA xr.length xc, .int .i64 (xl : Int), .int .i64 xh, .int .i64 xs, .int .i64 xe]] w' (fun e w'' => e = .returned (.bool true) ∧ Below w'.heap.size w' w'') :=
        fun w' b => same_calls m ⟨f, s / 2, 1 - pp.use, pp.e + 1, pp.rs, pp.rs.length⟩ ⟨xA, xc, xr, xl, xh, xs, xe⟩ pp.rs.length rfl w' base (Lm.below b) (X9.below b) hxr
      have EP : ∀ w', Below w9.heap.size w9 w' → Calls Tryd.prog 22 #[.pointer (some ⟨m.G, 0, none⟩)] w' (fun e w'' => e = .returned (.int .i64 (xe + 1)) ∧ w' = w'') := fun w' b => by
        have := jepoch_calls m w' base (Lm.below b).ok
        rw [hme] at this
        exact this
      have LF : ∀ w', Below w9.heap.size w9 w' → Calls Tryd.prog 20 #[.pointer (some ⟨m.G, 0, none⟩)] w' _ := fun w' b => jleft_calls m _ w' base (Lm.below b)
      have XF : ∀ w', Below w9.heap.size w9 w' → Calls Tryd.prog 21 #[.agg #[.slice xA xr.length xc, .int .i64 (xl : Int), .int .i64 xh, .int .i64 xs, .int .i64 xe]] w' _ := fun w' b =>
        xleft_calls ⟨xA, xc, xr, xl, xh, xs, xe⟩ (s / 2) jj.y.size (by rw [hsz9.half, L.half]) hsz9.size (by omega) (by omega) (by omega) w' (X9.below b).rd.rv (fun r hr => by
          have := Lm.inv.base.small r.abs (by rw [← hxr]; exact List.mem_map_of_mem hr)
          exact this) (by have := congrArg List.length hxr; rw [List.length_map] at this; show xr.length ≤ _; omega) (by show sumNd jj.y.size (xr.map RecR.abs) ≤ _; rw [hxr, ← hzz]; omega)
      have WT : ∀ w', Below w9.heap.size w9 w' → Calls Tryd.prog 30 #[.pointer (some ⟨j.y.D, 0, none⟩)] w' (fun e w'' => e = .returned (.int .i64 0) ∧ w' = w'') := fun w' b => by
        have := waits_calls m.y w' base (Lm.below b).ok.dk
        rw [hmD, L.D, hw0] at this
        exact this
      obtain ⟨lf, hlf⟩ : ∃ lf, leftN m.y.size ⟨f, s / 2, 1 - pp.use, pp.e + 1, pp.rs, pp.rs.length⟩ = lf := ⟨_, rfl⟩
      have hxl : (((s / 2 : Nat) : Int) - 1 - (sumNd jj.y.size (xr.map RecR.abs) : Int)) = lf := by
        rw [← hlf, hxr, ← hzz]
        show _ = ((s / 2 : Nat) : Int) - (1 + sumNd m.y.size pp.rs : Nat)
        omega
      simp only [hlf] at LF
      simp only [hxl] at XF
      have HS : Hid (∀ wq, Below w9.heap.size w9 wq → (wq.cell? ⟨w4.heap.size, 0, none⟩ = some (.slice xA xr.length xc) ∧ wq.cell? ⟨w4.heap.size, 1, none⟩ = some (.int .i64 (xl : Int)) ∧ wq.cell? ⟨w4.heap.size, 2, none⟩ = some (.int .i64 xh) ∧ wq.cell? ⟨w4.heap.size, 3, none⟩ = some (.int .i64 xs) ∧ wq.cell? ⟨w4.heap.size, 4, none⟩ = some (.int .i64 xe))) :=
        fun wq b => have q := k9.below b k9.lt; ⟨q.at_ rfl, q.at_ rfl, q.at_ rfl, q.at_ rfl, q.at_ rfl⟩
      have bd : Below w9.heap.size w9 w9.drew := (Below.refl _ _).drew
      have f1 := HS.out _ bd
      clear Lm K9 X9 k9 L hmf hwt hsz9 hlf hxl hxr z1 z2 z3 z4 z5 z6 z7 z8 q1 q2 hme hxe hmD hmz hml hzz hw0 hR hk hb c2 c3
      go_wp2_with fail
      go_region_held (fun wq => wq.cell? ⟨w4.heap.size, 0, none⟩ = some (.slice xA xr.length xc) ∧ wq.cell? ⟨w4.heap.size, 1, none⟩ = some (.int .i64 (xl : Int)) ∧ wq.cell? ⟨w4.heap.size, 2, none⟩ = some (.int .i64 xh) ∧ wq.cell? ⟨w4.heap.size, 3, none⟩ = some (.int .i64 xs) ∧ wq.cell? ⟨w4.heap.size, 4, none⟩ = some (.int .i64 xe)) (first | (with_reducible exact f1) | (with_reducible exact f2) | (with_reducible exact f3) | (with_reducible exact f4)) (first
        | (have _q := b12; go_at_call 30; (with_reducible refine (WT w12 b12).mono ?_); rintro _ _ ⟨rfl, rfl⟩)
        | (have _q := b11; go_at_call 21; (with_reducible refine (XF _ b11).mono ?_); rintro _ w12 ⟨rfl, b12z⟩; have b12 := b11.trans (b12z.mono b11.size); have f4 := HS.out _ b12; clear b12z)
        | (have _q := b10; go_at_call 20; (with_reducible refine (LF w10 b10).mono ?_); rintro _ _ ⟨rfl, q, rfl⟩; have b11 : Below w9.heap.size w9 (w10.drewN q) := ⟨b10.os, b10.tape, b10.output, b10.size, b10.block⟩; have f3 := HS.out _ b11)
        | (have _q := b10; go_at_call 22; (with_reducible refine (EP w10 b10).mono ?_); rintro _ _ ⟨rfl, rfl⟩)
        | (go_at_call 15; (with_reducible refine (SM _ bd).mono ?_); rintro _ w10 ⟨rfl, b10z⟩; have b10 : Below w9.heap.size w9 w10 := ⟨b10z.os, b10z.tape, b10z.output, b10z.size, b10z.block⟩; have f2 := HS.out _ b10; clear b10z))
      have HF := Lib.hid (HB9.out.trans (b12.mono HB9.out.size))
      clear HS SM EP LF XF WT f1 f2 f3 f4 bd b10 b11 b12
      go_wp2
      go_ret
      exact ⟨rfl, HF.out⟩
end Go.Proofs.YtpojlchikaffhaaDoor
