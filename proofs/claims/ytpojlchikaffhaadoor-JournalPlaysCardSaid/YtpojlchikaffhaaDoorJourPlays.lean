/-
  The statements' JournalPlays, walked.
-/
import Derived.Test.YtpojlchikaffhaaDoorJourLoop
import Derived.Test.YtpojlchikaffhaaDoorJourWakes
namespace Go.Proofs.YtpojlchikaffhaaDoor
open Go.RowKit DiskP SumP PageP JourP

set_option maxHeartbeats 3200000 in
theorem jourPlays_walk (P : PlaceR) (l : List ActR) (n : Nat) (hn : l.length = n) (A : Option Addr) (cap : Nat) (w : World) (hT : Tab w) (hR : RV w A (aC l)) (hk : ∀ a ∈ l, RecOK w (fun _ => False) a.r) (hb : ∀ a ∈ l, a.r.body.length ≤ 140737488351232) (hl : n ≤ 9223372036854775807) :
    Calls Tryd.prog 4 #[.agg P.cells, .slice A n cap] w fun e w' => e = .returned (.bool true) ∧ Below w.heap.size w w' := by
  obtain ⟨pa, ps, pf, pn⟩ := P
  have hg := hT.lt
  have B1 : Below w.heap.size w (w.alloc (.cells #[.int .i64 pa, .int .i64 ps, .int .i64 pf, .int .i64 pn] 23)) := (Below.refl _ _).alloc (Nat.le_refl _) _
  have P1 : Blk (w.alloc (.cells #[.int .i64 pa, .int .i64 ps, .int .i64 pf, .int .i64 pn] 23)) w.heap.size 23 #[.int .i64 pa, .int .i64 ps, .int .i64 pf, .int .i64 pn] := Blk.new w 23 #[.int .i64 pa, .int .i64 ps, .int .i64 pf, .int .i64 pn]
  have WC := fun (w' : World) (b : Below w.heap.size w w') => wakes_calls w' (hT.below b)
  have SC : ∀ (w' : World), Below w.heap.size w w' → Calls Tryd.prog 10 #[.agg #[.int .i64 pa, .int .i64 ps, .int .i64 pf, .int .i64 pn], .slice A n cap] w' (RetSmall w' ⟨pa, ps, pf, pn⟩ l) := fun w' b => small_calls ⟨pa, ps, pf, pn⟩ l n hn A cap w' (hR.below b) hb hl
  show Calls Tryd.prog 4 #[.agg #[.int .i64 pa, .int .i64 ps, .int .i64 pf, .int .i64 pn], .slice A n cap] w _
  go_enter Tryd.func4, Tryd.ntmps4
  go_wp2_with fail
  generalize (w.alloc (.cells #[.int .i64 pa, .int .i64 ps, .int .i64 pf, .int .i64 pn] 23)) = w1 at *
  (with_reducible refine (WC w1 B1).mono ?_)
  clear WC
  rintro _ w2 ⟨rfl, b2⟩
  have B2 := B1.trans (b2.mono B1.size)
  have P2 := P1.below b2 P1.lt
  have c0 : w2.cell? ⟨w.heap.size, 0, none⟩ = some (.int .i64 pa) := P2.at_ rfl
  have c1 : w2.cell? ⟨w.heap.size, 1, none⟩ = some (.int .i64 ps) := P2.at_ rfl
  have c2 : w2.cell? ⟨w.heap.size, 2, none⟩ = some (.int .i64 pf) := P2.at_ rfl
  have c3 : w2.cell? ⟨w.heap.size, 3, none⟩ = some (.int .i64 pn) := P2.at_ rfl
  clear P1 b2
  go_wp2_with fail
  (with_reducible refine (SC w2 B2).mono ?_)
  clear SC
  rintro _ w3 ⟨(⟨rfl, hS⟩ | rfl), b3⟩
  rotate_left
  · have HF := Lib.hid (B2.trans (b3.mono B2.size))
    go_wp2_with fail
    go_ret
    exact ⟨rfl, HF.out⟩
  have B3 := B2.trans (b3.mono B2.size)
  have P3 := P2.below b3 P2.lt
  obtain ⟨_, hl40, h1, h2, h3⟩ := hS
  simp only at h1 h2 h3
  clear c0 c1 c2 c3
  have c0 : w3.cell? ⟨w.heap.size, 0, none⟩ = some (.int .i64 pa) := P3.at_ rfl
  have c1 : w3.cell? ⟨w.heap.size, 1, none⟩ = some (.int .i64 ps) := P3.at_ rfl
  have c2 : w3.cell? ⟨w.heap.size, 2, none⟩ = some (.int .i64 pf) := P3.at_ rfl
  have c3 : w3.cell? ⟨w.heap.size, 3, none⟩ = some (.int .i64 pn) := P3.at_ rfl
  by_cases hbad : pa < 1 ∨ 65536 < pa ∨ ps < 16 ∨ 4096 < ps
  · have NC := fun w' => new_no pa ps w' hbad
    clear hbad
    go_wp2_with fail
    (with_reducible refine (NC _).mono ?_)
    clear NC
    rintro _ w4 ⟨rfl, rfl⟩
    have HF := Lib.hid B3
    go_wp2_with fail
    go_ret
    exact ⟨rfl, HF.out⟩
  obtain ⟨an, han⟩ := Int.eq_ofNat_of_zero_le (show 0 ≤ pa by omega)
  obtain ⟨sn, hsn⟩ := Int.eq_ofNat_of_zero_le (show 0 ≤ ps by omega)
  subst han hsn
  have NC := fun w' => new_calls an sn w' (by omega) (by omega) (by omega) (by omega)
  have hs3 := B3.size
  have hp3 := P3.lt
  clear P2 b3
  go_wp2_with fail
  (with_reducible refine (NC _).mono ?_)
  clear NC
  rintro _ w4 ⟨y, rfl, hd4, ha4, hl4, hz4, b4⟩
  have B4 := B3.trans (b4.mono B3.size)
  have P4 := P3.below b4 P3.lt
  have Hl4 := Lib.hid hl4
  have Hz4 := Lib.hid hz4
  have Ha4 := Lib.hid ha4
  have hs4 := b4.size
  clear c0 c1 c2 c3
  have c0 : w4.cell? ⟨w.heap.size, 0, none⟩ = some (.int .i64 (an : Int)) := P4.at_ rfl
  have c1 : w4.cell? ⟨w.heap.size, 1, none⟩ = some (.int .i64 (sn : Int)) := P4.at_ rfl
  have c2 : w4.cell? ⟨w.heap.size, 2, none⟩ = some (.int .i64 pf) := P4.at_ rfl
  have c3 : w4.cell? ⟨w.heap.size, 3, none⟩ = some (.int .i64 pn) := P4.at_ rfl
  by_cases hq : goodP (an : Int) (sn : Int) pf pn
  rotate_left
  · have OB := jopen_bad y pf pn w4 w3.heap.size hd4 (by rw [hl4, hz4]; exact hq)
    have XB := fun w' => xopen_bad (an : Int) (sn : Int) pf pn w' hq (by omega) (by omega) (by omega) (by omega) (by omega)
    clear hl4 hz4 ha4 hbad hq
    go_wp2_with fail
    (with_reducible refine OB.mono ?_)
    clear OB
    rintro _ w5 ⟨rfl, q, rfl⟩
    go_wp2_with fail
    (with_reducible refine (XB _).mono ?_)
    clear XB
    rintro _ w6 ⟨rfl, b6⟩
    have HF := Lib.hid ((B4.trans ((drewN_below w4 q).mono B4.size)).trans (b6.mono B4.size))
    go_wp2_with fail
    go_ret
    exact ⟨rfl, HF.out.alloc HF.out.size _⟩
  obtain ⟨q1, q2, q3, q4, q5⟩ := hq
  obtain ⟨fN, hfN⟩ := Int.eq_ofNat_of_zero_le q2
  obtain ⟨sN, hsN⟩ := Int.eq_ofNat_of_zero_le (show 0 ≤ pn by omega)
  subst hfN hsN
  have hq : goodP (an : Int) (sn : Int) (fN : Int) (sN : Int) := ⟨q1, q2, q3, q4, q5⟩
  have OB := jopen_fresh y fN sN an sn w4 w3.heap.size hd4 ha4 hl4 hz4 hq (hT.below B4) hs4 (by omega)
  have XB := fun w' => xopen_good (an : Int) (sn : Int) (fN : Int) (sN : Int) w' hq (by omega) (by omega)
  clear hl4 hz4 ha4 hbad
  go_wp2_with fail
  (with_reducible refine OB.mono ?_)
  clear OB
  rintro _ w5 ⟨j, kk, rfl, hL5, _, _, _, hjD, ⟨hjz, hjl⟩, _, k5, _⟩
  have b5 : Below w3.heap.size w4 w5 := k5.below (fun i _ hi => (hd4.foot_lt hi).1) hs4
  have B5 := B4.trans (b5.mono hs3)
  have P5 := P4.below b5 hp3
  have hs5 := k5.size
  clear c0 c1 c2 c3
  have c0 : w5.cell? ⟨w.heap.size, 0, none⟩ = some (.int .i64 (an : Int)) := P5.at_ rfl
  have c1 : w5.cell? ⟨w.heap.size, 1, none⟩ = some (.int .i64 (sn : Int)) := P5.at_ rfl
  have c2 : w5.cell? ⟨w.heap.size, 2, none⟩ = some (.int .i64 (fN : Int)) := P5.at_ rfl
  have c3 : w5.cell? ⟨w.heap.size, 3, none⟩ = some (.int .i64 (sN : Int)) := P5.at_ rfl
  go_wp2_with fail
  (with_reducible refine (XB _).mono ?_)
  clear XB
  rintro _ w6 ⟨rfl, b6⟩
  rw [show (XL.fresh ((sN : Int) / 2) (sn : Int)).val = .agg #[.slice none 0 0, .int .i64 0, .int .i64 ((sN : Int) / 2), .int .i64 (sn : Int), .int .i64 1] from rfl]
  have B6 := B5.trans (b6.mono B5.size)
  have hs6 := b6.size
  have hB6 := fresh_both (X := fun _ => False) (s := sN) Hz4.out (hL5.below b6) hjz (fun k hk => hk.elim) (fun k hk => hk.elim)
  have b7 : Below w6.heap.size w6 (w6.alloc (.cells #[.slice none 0 0, .int .i64 0, .int .i64 ((sN : Int) / 2), .int .i64 (sn : Int), .int .i64 1] 31)) := (Below.refl _ _).alloc (Nat.le_refl _) _
  have hl7 : w6.heap.size < (w6.alloc (.cells #[.slice none 0 0, .int .i64 0, .int .i64 ((sN : Int) / 2), .int .i64 (sn : Int), .int .i64 1] 31)).heap.size := by simp
  obtain ⟨base, hbase⟩ : ∃ base, w3.heap.size = base := ⟨_, rfl⟩
  have hb1 : w3.heap.size ≤ base := by omega
  have hb2 : base ≤ w6.heap.size := by omega
  rw [hbase] at hB6
  have HL0 := Lib.hid (LoopJ.start (f := fN) (h := sN / 2) (e0 := 1) hB6 hb2 b7 hl7 (Blk.new w6 31 #[.slice none 0 0, .int .i64 0, .int .i64 ((sN : Int) / 2), .int .i64 (sn : Int), .int .i64 1]) rfl rfl rfl)
  have B7 := B6.trans (b7.mono B6.size)
  clear c0 c1 c2 c3 hB6 b7 hL5 hq q1 q2 q3 q4 q5 hjz hjl
  go_wp2_with fail
  generalize w6.alloc (.cells #[.slice none 0 0, .int .i64 0, .int .i64 ((sN : Int) / 2), .int .i64 (sn : Int), .int .i64 1] 31) = w7 at *
  clear P3 P4 P5 B1 B2 B3 B4 B5 B6 b4 b5 b6 k5 hd4
  clear hbase
  go_loopw [70] (fun i wr => ∃ (k : Nat) (jj : JL) (xx : XL) (pp : PJ), k ≤ n ∧ i = .int .i64 (k : Int) ∧ LoopJ w7 base w6.heap.size j.G j.y.D j.y.lp.length j.y.size fN (sN / 2) 1 0 k jj xx pp wr) (fun i _ => n - (intOf i).toNat)
  case atStart => exact ⟨0, j, _, _, by omega, rfl, HL0.out⟩
  case round =>
    obtain ⟨k, jj, ⟨xA, xc, xr, xl, xh, xs, xe⟩, pp, hkn, rfl, L⟩ := hrel
    have br : Below w.heap.size w wr := B7.trans (L.bel.mono (by omega))
    by_cases hlt : k < n
    · have dec : decide ((k : Int) < (n : Int)) = true := decide_eq_true (by omega)
      have dec' : decide (k < n) = true := decide_eq_true hlt
      obtain ⟨a, hak⟩ : ∃ a, l[k]? = some a := ⟨_, List.getElem?_eq_getElem (by omega)⟩
      obtain ⟨g, off, rfl, hgl, a0, a1, a2, a3⟩ := act_at (hR.below br) hak
      have hra := hk a (List.mem_of_getElem? hak)
      obtain ⟨ak, ⟨rk, rA, rc, rb⟩, af⟩ := a
      simp only at a0 a1 a2 a3 hra
      have b6 : Below wr.heap.size wr (wr.alloc (.cells #[.int .u8 (ak.toNat : Int), .int .u8 (rk.toNat : Int), .slice rA rb.length rc, .int .u8 (af.toNat : Int)] 52)) := (Below.refl _ _).alloc (Nat.le_refl _) _
      have Lz := L.below b6
      have hb6 : base ≤ (wr.alloc (.cells #[.int .u8 (ak.toNat : Int), .int .u8 (rk.toNat : Int), .slice rA rb.length rc, .int .u8 (af.toNat : Int)] 52)).heap.size := Nat.le_trans Lz.hw Lz.bel.size
      have q0 : (wr.alloc (.cells #[.int .u8 (ak.toNat : Int), .int .u8 (rk.toNat : Int), .slice rA rb.length rc, .int .u8 (af.toNat : Int)] 52)).cell? ⟨w6.heap.size, 0, none⟩ = some (.slice xA xr.length xc) := Lz.blk.at_ rfl
      have q1 : (wr.alloc (.cells #[.int .u8 (ak.toNat : Int), .int .u8 (rk.toNat : Int), .slice rA rb.length rc, .int .u8 (af.toNat : Int)] 52)).cell? ⟨w6.heap.size, 1, none⟩ = some (.int .i64 (xl : Int)) := Lz.blk.at_ rfl
      have q2 : (wr.alloc (.cells #[.int .u8 (ak.toNat : Int), .int .u8 (rk.toNat : Int), .slice rA rb.length rc, .int .u8 (af.toNat : Int)] 52)).cell? ⟨w6.heap.size, 2, none⟩ = some (.int .i64 xh) := Lz.blk.at_ rfl
      have q3 : (wr.alloc (.cells #[.int .u8 (ak.toNat : Int), .int .u8 (rk.toNat : Int), .slice rA rb.length rc, .int .u8 (af.toNat : Int)] 52)).cell? ⟨w6.heap.size, 3, none⟩ = some (.int .i64 xs) := Lz.blk.at_ rfl
      have q4 : (wr.alloc (.cells #[.int .u8 (ak.toNat : Int), .int .u8 (rk.toNat : Int), .slice rA rb.length rc, .int .u8 (af.toNat : Int)] 52)).cell? ⟨w6.heap.size, 4, none⟩ = some (.int .i64 xe) := Lz.blk.at_ rfl
      have DC : Calls Tryd.prog 19 #[.pointer (some ⟨jj.G, 0, none⟩), .agg #[.slice xA xr.length xc, .int .i64 (xl : Int), .int .i64 xh, .int .i64 xs, .int .i64 xe], .agg #[.int .u8 (ak.toNat : Int), .int .u8 (rk.toNat : Int), .slice rA rb.length rc, .int .u8 (af.toNat : Int)]] (wr.alloc (.cells #[.int .u8 (ak.toNat : Int), .int .u8 (rk.toNat : Int), .slice rA rb.length rc, .int .u8 (af.toNat : Int)] 52)) _ :=
        do_calls jj pp ⟨xA, xc, xr, xl, xh, xs, xe⟩ 0 ⟨ak, ⟨rk, rA, rc, rb⟩, af⟩ (wr.alloc (.cells #[.int .u8 (ak.toNat : Int), .int .u8 (rk.toNat : Int), .slice rA rb.length rc, .int .u8 (af.toNat : Int)] 52)) base (fun i => i = w6.heap.size) Lz.both (hT.below (br.trans (b6.mono br.size))) hb6 (by omega) (hra.apart (Nat.le_refl _) (br.trans (b6.mono br.size)) (fun i hi => by
          rcases hi with hi | hi
          · have := (Lz.both.L.ok.foot_lt hi).1
            omega
          · omega)) (by have := L.e; omega) (by omega) (by omega)
      rw [L.G] at DC
      have HL := Lib.hid L
      have HB := Lib.hid b6
      clear L Lz hra hak
      go_wp2_with fail
      (with_reducible refine DC.mono ?_)
      clear DC q0 q1 q2 q3 q4
      rintro _ w8 R
      obtain ⟨⟨yA, yc, yr, yl, yh, ys, ye⟩, rfl, blk8, _, hs8, j', HN⟩ := LoopJ.next HL.out HB.out R
      rw [XL.val_eq]
      have hxb : w6.heap.size < w8.heap.size := blk8.lt
      obtain ⟨p', hp'⟩ : ∃ p', p' = doP jj.y.size pp ⟨ak, ⟨rk, rA, rc, rb⟩, af⟩ := ⟨_, rfl⟩
      have HN' : Hid (LoopJ w7 base w6.heap.size j.G j.y.D j.y.lp.length j.y.size fN (sN / 2) 1 0 (k + 1) j' ⟨yA, yc, yr, yl, yh, ys, ye⟩ p' (((((((w8).setCell ⟨w6.heap.size, 0, none⟩ (.slice yA yr.length yc)).setCell ⟨w6.heap.size, 1, none⟩ (.int .i64 (yl : Int))).setCell ⟨w6.heap.size, 2, none⟩ (.int .i64 yh)).setCell ⟨w6.heap.size, 3, none⟩ (.int .i64 ys)).setCell ⟨w6.heap.size, 4, none⟩ (.int .i64 ye)).alloc (.cells #[.slice yA yr.length yc, .int .i64 (yl : Int), .int .i64 yh, .int .i64 ys, .int .i64 ye] 31))) := by
        rw [hp']
        exact HN _ (((((((Kept.refl (fun i => i = w6.heap.size) w8).setCell (p := ⟨w6.heap.size, 0, none⟩) (.inl rfl) _).setCell (p := ⟨w6.heap.size, 1, none⟩) (.inl rfl) _).setCell (p := ⟨w6.heap.size, 2, none⟩) (.inl rfl) _).setCell (p := ⟨w6.heap.size, 3, none⟩) (.inl rfl) _).setCell (p := ⟨w6.heap.size, 4, none⟩) (.inl rfl) _).alloc _)
          ((((((blk8.set_ 0 _).set_ 1 _).set_ 2 _).set_ 3 _).set_ 4 _).alloc _)
      have z0 : w8.cell? ⟨w6.heap.size, 0, none⟩ = some (.slice xA xr.length xc) := blk8.at_ rfl
      have z1 : w8.cell? ⟨w6.heap.size, 1, none⟩ = some (.int .i64 (xl : Int)) := blk8.at_ rfl
      have z2 : w8.cell? ⟨w6.heap.size, 2, none⟩ = some (.int .i64 xh) := blk8.at_ rfl
      have z3 : w8.cell? ⟨w6.heap.size, 3, none⟩ = some (.int .i64 xs) := blk8.at_ rfl
      have z4 : w8.cell? ⟨w6.heap.size, 4, none⟩ = some (.int .i64 xe) := blk8.at_ rfl
      have y0 := blk8.frozen 0
      have y1 := blk8.frozen 1
      have y2 := blk8.frozen 2
      have y3 := blk8.frozen 3
      have y4 := blk8.frozen 4
      clear HN blk8 HL HB R b6 a0 a1 a2 a3 hgl hb6 hp'
      go_wp2_with fail
      generalize (((((((w8).setCell ⟨w6.heap.size, 0, none⟩ (.slice yA yr.length yc)).setCell ⟨w6.heap.size, 1, none⟩ (.int .i64 (yl : Int))).setCell ⟨w6.heap.size, 2, none⟩ (.int .i64 yh)).setCell ⟨w6.heap.size, 3, none⟩ (.int .i64 ys)).setCell ⟨w6.heap.size, 4, none⟩ (.int .i64 ye)).alloc (.cells #[.slice yA yr.length yc, .int .i64 (yl : Int), .int .i64 yh, .int .i64 ys, .int .i64 ye] 31)) = w9 at *
      have L9 := HN'.out
      clear z0 z1 z2 z3 z4 y0 y1 y2 y3 y4
      have hsy := L9.both.says
      obtain ⟨z1, z2, z3, z4, z5, z6, z7, z8⟩ := L9.both.L.sizes
      have hme : j'.epoch = ye := by rw [L9.both.L.fe]; have := hsy.epoch; simp at this; exact this.symm
      have hyr : yr.map RecR.abs = p'.rs := hsy.rs
      have Y9 := L9.same.1
      have SM : ∀ w', Below w9.heap.size w9 w' → Calls Tryd.prog 15 #[.pointer (some ⟨j.G, 0, none⟩), .agg #[.slice yA yr.length yc, .int .i64 (yl : Int), .int .i64 yh, .int .i64 ys, .int .i64 ye]] w' (fun e w'' => e = .returned (.bool true) ∧ Below w'.heap.size w' w'') := fun w' b => by
        have := same_calls j' p' ⟨yA, yc, yr, yl, yh, ys, ye⟩ p'.rs.length rfl w' base (L9.both.L.below b) (Y9.below b) hyr
        rw [L9.G] at this
        exact this
      have EP : ∀ w', Below w9.heap.size w9 w' → Calls Tryd.prog 22 #[.pointer (some ⟨j.G, 0, none⟩)] w' (fun e w'' => e = .returned (.int .i64 ye) ∧ w' = w'') := fun w' b => by
        have := jepoch_calls j' w' base (L9.both.L.below b).ok
        rw [hme, L9.G] at this
        exact this
      obtain ⟨lf, hlf⟩ : ∃ lf, leftN j'.y.size p' = lf := ⟨_, rfl⟩
      have LF : ∀ w', Below w9.heap.size w9 w' → Calls Tryd.prog 20 #[.pointer (some ⟨j.G, 0, none⟩)] w' (fun e w'' => e = .returned (.int .i64 lf) ∧ ∃ q, w'' = w'.drewN q) := fun w' b => by
        have := jleft_calls j' p' w' base (L9.both.L.below b)
        rw [L9.G, hlf] at this
        exact this
      have hxl : ((p'.half : Nat) : Int) - 1 - (sumNd j'.y.size (yr.map RecR.abs) : Int) = lf := by
        rw [← hlf, hyr]
        unfold leftN
        omega
      have XF : ∀ w', Below w9.heap.size w9 w' → Calls Tryd.prog 21 #[.agg #[.slice yA yr.length yc, .int .i64 (yl : Int), .int .i64 yh, .int .i64 ys, .int .i64 ye]] w' (fun e w'' => e = .returned (.int .i64 lf) ∧ Below w'.heap.size w' w'') := fun w' b => by
        have := xleft_calls ⟨yA, yc, yr, yl, yh, ys, ye⟩ p'.half j'.y.size hsy.half hsy.size (by omega) (by omega) (by omega) w' (Y9.below b).rd.rv (fun r hr => by
          have := L9.both.L.inv.base.small r.abs (by rw [← hyr]; exact List.mem_map_of_mem hr)
          exact this) (by have := congrArg List.length hyr; rw [List.length_map] at this; show yr.length ≤ _; omega) (by show sumNd j'.y.size (yr.map RecR.abs) ≤ _; rw [hyr]; omega)
        rw [hxl] at this
        exact this
      have HS : Hid (∀ wq, Below w9.heap.size w9 wq → (wq.cell? ⟨w6.heap.size, 0, none⟩ = some (.slice yA yr.length yc) ∧ wq.cell? ⟨w6.heap.size, 1, none⟩ = some (.int .i64 (yl : Int)) ∧ wq.cell? ⟨w6.heap.size, 2, none⟩ = some (.int .i64 yh) ∧ wq.cell? ⟨w6.heap.size, 3, none⟩ = some (.int .i64 ys) ∧ wq.cell? ⟨w6.heap.size, 4, none⟩ = some (.int .i64 ye))) :=
        fun wq b => have q := L9.blk.below b L9.blk.lt; ⟨q.at_ rfl, q.at_ rfl, q.at_ rfl, q.at_ rfl, q.at_ rfl⟩
      have bd : Below w9.heap.size w9 w9.drew := (Below.refl _ _).drew
      have f1 := HS.out _ bd
      clear hsy z1 z2 z3 z4 z5 z6 z7 z8 hme hyr Y9 hlf hxl L9
      go_region_held (fun wq => wq.cell? ⟨w6.heap.size, 0, none⟩ = some (.slice yA yr.length yc) ∧ wq.cell? ⟨w6.heap.size, 1, none⟩ = some (.int .i64 (yl : Int)) ∧ wq.cell? ⟨w6.heap.size, 2, none⟩ = some (.int .i64 yh) ∧ wq.cell? ⟨w6.heap.size, 3, none⟩ = some (.int .i64 ys) ∧ wq.cell? ⟨w6.heap.size, 4, none⟩ = some (.int .i64 ye)) (first | (with_reducible exact f1) | (with_reducible exact f2) | (with_reducible exact f3) | (with_reducible exact f4)) (first
        | (have _q := b12; go_at_call 22; (with_reducible refine (EP _ b12).mono ?_); rintro _ _ ⟨rfl, rfl⟩)
        | (have _q := b11; go_at_call 21; (with_reducible refine (XF _ b11).mono ?_); rintro _ w12 ⟨rfl, b12z⟩; have b12 := b11.trans (b12z.mono b11.size); have f4 := HS.out _ b12; clear b12z)
        | (have _q := b10; go_at_call 20; (with_reducible refine (LF w10 b10).mono ?_); rintro _ _ ⟨rfl, q, rfl⟩; have b11 : Below w9.heap.size w9 (w10.drewN q) := ⟨b10.os, b10.tape, b10.output, b10.size, b10.block⟩; have f3 := HS.out _ b11)
        | (go_at_call 15; (with_reducible refine (SM _ bd).mono ?_); rintro _ w10 ⟨rfl, b10z⟩; have b10 : Below w9.heap.size w9 w10 := ⟨b10z.os, b10z.tape, b10z.output, b10z.size, b10z.block⟩; have f2 := HS.out _ b10; clear b10z))
      clear HS SM EP LF XF f1 f2 f3 f4 bd b10 b11
      have HX := Lib.hid b12
      clear b12
      go_wp2
      go_roundw
      case rel => exact ⟨k + 1, j', ⟨yA, yc, yr, yl, yh, ys, ye⟩, p', by omega, by go_num, HN'.out.below HX.out⟩
      case measure => simp [intOf]; omega
    · obtain rfl : k = n := by omega
      have dec : decide ((k : Int) < (k : Int)) = false := decide_eq_false (by omega)
      have dec' : decide (k < k) = false := decide_eq_false (by omega)
      have hsy := L.both.says
      obtain ⟨z1, z2, z3, z4, z5, z6, z7, z8⟩ := L.both.L.sizes
      have hme : jj.epoch = xe := by rw [L.both.L.fe]; have := hsy.epoch; simp at this; exact this.symm
      have hyr : xr.map RecR.abs = pp.rs := hsy.rs
      have Y9 := L.same.1
      have SM : ∀ w', Below wr.heap.size wr w' → Calls Tryd.prog 15 #[.pointer (some ⟨j.G, 0, none⟩), .agg #[.slice xA xr.length xc, .int .i64 (xl : Int), .int .i64 xh, .int .i64 xs, .int .i64 xe]] w' (fun e w'' => e = .returned (.bool true) ∧ Below w'.heap.size w' w'') := fun w' b => by
        have := same_calls jj pp ⟨xA, xc, xr, xl, xh, xs, xe⟩ pp.rs.length rfl w' base (L.both.L.below b) (Y9.below b) hyr
        rw [L.G] at this
        exact this
      have EP : ∀ w', Below wr.heap.size wr w' → Calls Tryd.prog 22 #[.pointer (some ⟨j.G, 0, none⟩)] w' (fun e w'' => e = .returned (.int .i64 xe) ∧ w' = w'') := fun w' b => by
        have := jepoch_calls jj w' base (L.both.L.below b).ok
        rw [hme, L.G] at this
        exact this
      have HS : Hid (∀ wq, Below wr.heap.size wr wq → (wq.cell? ⟨w6.heap.size, 0, none⟩ = some (.slice xA xr.length xc) ∧ wq.cell? ⟨w6.heap.size, 1, none⟩ = some (.int .i64 (xl : Int)) ∧ wq.cell? ⟨w6.heap.size, 2, none⟩ = some (.int .i64 xh) ∧ wq.cell? ⟨w6.heap.size, 3, none⟩ = some (.int .i64 xs) ∧ wq.cell? ⟨w6.heap.size, 4, none⟩ = some (.int .i64 xe))) :=
        fun wq b => have q := L.blk.below b L.blk.lt; ⟨q.at_ rfl, q.at_ rfl, q.at_ rfl, q.at_ rfl, q.at_ rfl⟩
      have bd : Below wr.heap.size wr wr.drew := (Below.refl _ _).drew
      have f1 := HS.out _ bd
      clear hsy z1 z2 z3 z4 z5 z6 z7 z8 hme hyr Y9 L HL0
      go_wp2_with fail
      go_region_held (fun wq => wq.cell? ⟨w6.heap.size, 0, none⟩ = some (.slice xA xr.length xc) ∧ wq.cell? ⟨w6.heap.size, 1, none⟩ = some (.int .i64 (xl : Int)) ∧ wq.cell? ⟨w6.heap.size, 2, none⟩ = some (.int .i64 xh) ∧ wq.cell? ⟨w6.heap.size, 3, none⟩ = some (.int .i64 xs) ∧ wq.cell? ⟨w6.heap.size, 4, none⟩ = some (.int .i64 xe)) (first | (with_reducible exact f1) | (with_reducible exact f2)) (first
        | (have _q := b10; go_at_call 22; (with_reducible refine (EP _ b10).mono ?_); rintro _ _ ⟨rfl, rfl⟩)
        | (go_at_call 15; (with_reducible refine (SM _ bd).mono ?_); rintro _ w10 ⟨rfl, b10z⟩; have b10 : Below wr.heap.size wr w10 := ⟨b10z.os, b10z.tape, b10z.output, b10z.size, b10z.block⟩; have f2 := HS.out _ b10; clear b10z))
      have HF := Lib.hid (br.trans (b10.mono br.size))
      clear HS SM EP f1 f2 bd b10
      go_wp2
      go_ret
      exact ⟨rfl, HF.out⟩
end Go.Proofs.YtpojlchikaffhaaDoor
