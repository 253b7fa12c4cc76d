/-
  The statements' JournalTurned, walked.
-/
import Derived.Test.YtpojlchikaffhaaDoorJourLoop
import Derived.Test.YtpojlchikaffhaaDoorJourWakes
import Derived.Test.YtpojlchikaffhaaDoorJMem
namespace Go.Proofs.YtpojlchikaffhaaDoor
open Go.RowKit DiskP SumP PageP JourP

theorem turnS_lasts {size : Nat} {p : PJ} (ks : List Rec) (h : p.lasts = p.rs.length) : (p.turnS size ks).lasts = (p.turnS size ks).rs.length := by
  unfold PJ.turnS
  split
  · rfl
  · exact h
theorem turnS_same (size : Nat) (p : PJ) (ks : List Rec) : (p.turnS size ks).e ≤ p.e + 1 ∧ (p.turnS size ks).from_ = p.from_ ∧ (p.turnS size ks).half = p.half := by
  unfold PJ.turnS
  split
  · exact ⟨Nat.le_refl _, rfl, rfl⟩
  · exact ⟨Nat.le_succ _, rfl, rfl⟩
set_option maxHeartbeats 6400000 in
set_option maxRecDepth 100000 in
theorem jourTurned_walk (P : PlaceR) (ks : List RecR) (n : Nat) (hn : ks.length = n) (A : Option Addr) (cap : Nat) (w : World) (hT : Tab w) (hR : RV w A (rC ks)) (hk : ∀ a ∈ ks, RecOK w (fun _ => False) a) (hb : ∀ a ∈ ks, a.body.length ≤ 140737488351232) (hl : n ≤ 9223372036854775807) (kp : List Bool) (kn : Nat) (hkn0 : kp.length = kn) (A2 : Option Addr) (cap2 : Nat) (torn : Int) (hR2 : RV w A2 (cL kp)) (hkl : kn ≤ 9223372036854775807) :
    Calls Tryd.prog 7 #[.agg P.cells, .slice A n cap, .agg #[.slice A2 kn cap2, .int .i64 torn]] w fun e w' => e = .returned (.bool true) ∧ Below w.heap.size w w' := by
  obtain ⟨pa, ps, pf, pn⟩ := P
  have hg := hT.lt
  have B1 : Below w.heap.size w ((w.alloc (.cells #[.int .i64 pa, .int .i64 ps, .int .i64 pf, .int .i64 pn] 23)).alloc (.cells #[.slice A2 kn cap2, .int .i64 torn] 60)) := ((Below.refl _ _).alloc (Nat.le_refl _) _).alloc (by simp) _
  have P1 : Blk ((w.alloc (.cells #[.int .i64 pa, .int .i64 ps, .int .i64 pf, .int .i64 pn] 23)).alloc (.cells #[.slice A2 kn cap2, .int .i64 torn] 60)) w.heap.size 23 #[.int .i64 pa, .int .i64 ps, .int .i64 pf, .int .i64 pn] := (Blk.new w 23 #[.int .i64 pa, .int .i64 ps, .int .i64 pf, .int .i64 pn]).alloc _
  have Q1 : Blk ((w.alloc (.cells #[.int .i64 pa, .int .i64 ps, .int .i64 pf, .int .i64 pn] 23)).alloc (.cells #[.slice A2 kn cap2, .int .i64 torn] 60)) (w.heap.size + 1) 60 #[.slice A2 kn cap2, .int .i64 torn] := by
    have := Blk.new (w.alloc (.cells #[.int .i64 pa, .int .i64 ps, .int .i64 pf, .int .i64 pn] 23)) 60 #[.slice A2 kn cap2, .int .i64 torn]
    simpa using this
  have WC := fun (w' : World) (b : Below w.heap.size w w') => wakes_calls w' (hT.below b)
  have SC : ∀ (w' : World), Below w.heap.size w w' → Calls Tryd.prog 10 #[.agg #[.int .i64 pa, .int .i64 ps, .int .i64 pf, .int .i64 pn], .slice none 0 0] w' (RetSmall w' ⟨pa, ps, pf, pn⟩ []) := fun w' b => small_calls ⟨pa, ps, pf, pn⟩ [] 0 rfl none 0 w' RV.nil (fun a ha => by simp at ha) (by omega)
  have OC : ∀ (w' : World), Below w.heap.size w w' → pa ≤ 400 → ps ≤ 512 → pn ≤ 400 → Calls Tryd.prog 11 #[.agg #[.int .i64 pa, .int .i64 ps, .int .i64 pf, .int .i64 pn]] w' (RetO w' ⟨pa, ps, pf, pn⟩) := fun w' b h1 h2 h3 => lopen_calls ⟨pa, ps, pf, pn⟩ w' (hT.below b) h1 h2 h3
  show Calls Tryd.prog 7 #[.agg #[.int .i64 pa, .int .i64 ps, .int .i64 pf, .int .i64 pn], .slice A n cap, .agg #[.slice A2 kn cap2, .int .i64 torn]] w _
  go_enter Tryd.func7, Tryd.ntmps7
  go_wp2_with fail
  generalize ((w.alloc (.cells #[.int .i64 pa, .int .i64 ps, .int .i64 pf, .int .i64 pn] 23)).alloc (.cells #[.slice A2 kn cap2, .int .i64 torn] 60)) = w1 at *
  (with_reducible refine (WC w1 B1).mono ?_)
  clear WC
  rintro _ w2 ⟨rfl, b2⟩
  have B2 := B1.trans (b2.mono B1.size)
  have P2 := P1.below b2 P1.lt
  have Q2 := Q1.below b2 Q1.lt
  clear P1 Q1 b2
  go_wp2_with fail
  go_loopw [7, 25] (fun s i wr => ∃ k sn : Nat, k ≤ n ∧ i = .int .i64 (k : Int) ∧ sn ≤ 6000 ∧ s = .int .i64 (sn : Int) ∧ Below w2.heap.size w2 wr) (fun _ i _ => n - (intOf i).toNat)
  case atStart => exact ⟨0, 0, by omega, rfl, by omega, rfl, Below.refl _ _⟩
  case round =>
    obtain ⟨k, sn, hkn, rfl, hsb, rfl, bel⟩ := hrel
    have br : Below w.heap.size w wr := B2.trans (bel.mono B2.size)
    by_cases hlt : k < n
    · have dec : decide ((k : Int) < (n : Int)) = true := decide_eq_true (by omega)
      have dec' : decide (k < n) = true := decide_eq_true hlt
      obtain ⟨z, hzk⟩ : ∃ z, ks[k]? = some z := ⟨_, List.getElem?_eq_getElem (by omega)⟩
      have hbz := hb z (List.mem_of_getElem? hzk)
      obtain ⟨g, off, hAg, hgl, x0, x1⟩ := rec_elem (hR.below br) hzk
      obtain ⟨zk, zA, zc, zb⟩ := z
      simp only at x0 x1 hbz
      subst hAg
      have b8 : Below wr.heap.size wr (wr.alloc (.cells #[.int .u8 (zk.toNat : Int), .slice zA zb.length zc] 38)) := (Below.refl _ _).alloc (Nat.le_refl _) _
      have HB := Lib.hid (bel.trans (b8.mono bel.size))
      by_cases hbig : 6000 < sn + (zb.length + 1)
      · have d1 : decide (6000 < (sn : Int) + ((zb.length : Int) + 1)) = true := decide_eq_true (by omega)
        have HF := Lib.hid (B2.trans (HB.out.mono B2.size))
        clear hzk hR hk hb SC OC hbig
        go_wp2
        go_ret
        exact ⟨rfl, HF.out⟩
      · have d1 : decide (6000 < (sn : Int) + ((zb.length : Int) + 1)) = false := decide_eq_false (by omega)
        clear hzk hR hk hb SC OC
        go_wp2
        go_roundw
        case rel => exact ⟨k + 1, sn + (zb.length + 1), by omega, by go_num, by omega, by go_num, HB.out⟩
        case measure => simp [intOf]; omega
    · obtain rfl : k = n := by omega
      have dec : decide ((k : Int) < (k : Int)) = false := decide_eq_false (by omega)
      have dec' : decide (k < k) = false := decide_eq_false (by omega)
      obtain ⟨n, rfl⟩ : ∃ n, n = k := ⟨_, rfl⟩
      clear hsb
      have P2 := P2.below bel P2.lt
      have Q2 := Q2.below bel Q2.lt
      clear B2
      have B2 := br
      obtain ⟨w2, rfl⟩ : ∃ w2 : World, w2 = wr := ⟨_, rfl⟩
      clear bel br
      have c0 : w2.cell? ⟨w.heap.size, 0, none⟩ = some (.int .i64 pa) := P2.at_ rfl
      have c1 : w2.cell? ⟨w.heap.size, 1, none⟩ = some (.int .i64 ps) := P2.at_ rfl
      have c2 : w2.cell? ⟨w.heap.size, 2, none⟩ = some (.int .i64 pf) := P2.at_ rfl
      have c3 : w2.cell? ⟨w.heap.size, 3, none⟩ = some (.int .i64 pn) := P2.at_ rfl
      go_wp2_with fail
      (with_reducible refine (SC w2 B2).mono ?_)
      clear SC
      rintro _ w3 ⟨(⟨rfl, hS⟩ | rfl), b3⟩
      rotate_left
      · clear OC
        have HF := Lib.hid (B2.trans (b3.mono B2.size))
        go_wp2_with fail
        go_ret
        exact ⟨rfl, HF.out⟩
      have Q3 := Q2.below b3 Q2.lt
      have qc : w3.cell? ⟨w.heap.size + 1, 0, none⟩ = some (.slice A2 kn cap2) := Q3.at_ rfl
      by_cases h500 : 500 < kn
      · have dk : decide (500 < kn) = true := decide_eq_true h500
        have dk' : decide (500 < (kn : Int)) = true := decide_eq_true (by omega)
        clear OC
        have HF := Lib.hid (B2.trans (b3.mono B2.size))
        go_wp2_with fail
        go_ret
        exact ⟨rfl, HF.out⟩
      have dk : decide (500 < kn) = false := decide_eq_false h500
      have dk' : decide (500 < (kn : Int)) = false := decide_eq_false (by omega)
      by_cases h60 : 60 < n
      · have dn : decide (60 < n) = true := decide_eq_true h60
        have dn' : decide (60 < (n : Int)) = true := decide_eq_true (by omega)
        clear OC
        have HF := Lib.hid (B2.trans (b3.mono B2.size))
        go_wp2_with fail
        go_ret
        exact ⟨rfl, HF.out⟩
      have dn : decide (60 < n) = false := decide_eq_false h60
      have dn' : decide (60 < (n : Int)) = false := decide_eq_false (by omega)
      have B3 := B2.trans (b3.mono B2.size)
      have P3 := P2.below b3 P2.lt
      obtain ⟨_, _, h1, h2, h3⟩ := hS
      simp only at h1 h2 h3
      clear c0 c1 c2 c3
      have c0 : w3.cell? ⟨w.heap.size, 0, none⟩ = some (.int .i64 pa) := P3.at_ rfl
      have c1 : w3.cell? ⟨w.heap.size, 1, none⟩ = some (.int .i64 ps) := P3.at_ rfl
      have c2 : w3.cell? ⟨w.heap.size, 2, none⟩ = some (.int .i64 pf) := P3.at_ rfl
      have c3 : w3.cell? ⟨w.heap.size, 3, none⟩ = some (.int .i64 pn) := P3.at_ rfl
      go_wp2_with fail
      (with_reducible refine (OC w3 B3 h1 h2 h3).mono ?_)
      clear OC
      rintro _ w4 (⟨v0, rfl, b4⟩ | ⟨base, j, x, f, s, rfl, b4, hb1, hb2, BJ, hf, hs, hq, hlen, hsz⟩)
      · have HF := Lib.hid (B3.trans (b4.mono B3.size))
        go_wp2_with fail
        go_ret
        exact ⟨rfl, HF.out.alloc HF.out.size _⟩
      simp only at hf hs hq hlen hsz
      subst hf hs
      rw [hlen, hsz] at hq
      have HQ := Lib.hid hq
      have B4 := B3.trans (b4.mono B3.size)
      have hs3 := B3.size
      have hp3 := P3.lt
      have P4 := P3.below b4 P3.lt
      have Q4 := Q3.below b4 Q3.lt
      have hq3 := Q3.lt
      obtain ⟨xA, xc, xr, xl, xh, xs, xe⟩ := x
      rw [XL.val_eq]
      clear c0 c1 c2 c3 hlen hsz hq P2 P3 Q2 Q3 qc
      have nb5 := Blk.new w4 31 #[.slice xA xr.length xc, .int .i64 (xl : Int), .int .i64 xh, .int .i64 xs, .int .i64 xe]
      have b5 : Below w4.heap.size w4 (w4.alloc (.cells #[.slice xA xr.length xc, .int .i64 (xl : Int), .int .i64 xh, .int .i64 xs, .int .i64 xe] 31)) := (Below.refl _ _).alloc (Nat.le_refl _) _
      have hl5 : w4.heap.size < (w4.alloc (.cells #[.slice xA xr.length xc, .int .i64 (xl : Int), .int .i64 xh, .int .i64 xs, .int .i64 xe] 31)).heap.size := by simp
      go_wp2_with fail
      generalize w4.alloc (.cells #[.slice xA xr.length xc, .int .i64 (xl : Int), .int .i64 xh, .int .i64 xs, .int .i64 xe] 31) = w5 at *
      have B5 := B4.trans (b5.mono B4.size)
      have P5 := P4.below b5 P4.lt
      have Q5 := Q4.below b5 Q4.lt
      have HL0 := Lib.hid (LoopJ.start (f := f) (h := s / 2) (e0 := 1) BJ hb2 b5 hl5 nb5 rfl rfl rfl)
      have hs4 := b4.size
      have hs5 := B5.size
      have hR5 := hR.below B5
      clear BJ nb5 b5 b3
      go_loopw [14, 63] (fun v i wr => ∃ k : Nat, k ≤ n ∧ i = .int .i64 (k : Int) ∧ wr.ownsRow w5.heap.size 40 2 v k (rC (ks.take k)) ∧ Below w5.heap.size w5 wr) (fun _ i _ => n - (intOf i).toNat)
      case atStart => exact ⟨0, by omega, rfl, World.ownsRow_nil _ _ _ _, Below.refl _ _⟩
      case round =>
        obtain ⟨k, hkn, rfl, own, bel⟩ := hrel
        obtain ⟨AR, cR, rfl, _, _⟩ := own_form own
        have br : Below w.heap.size w wr := B5.trans (bel.mono hs5)
        by_cases hlt : k < n
        · have dec : decide ((k : Int) < (n : Int)) = true := decide_eq_true (by omega)
          have dec' : decide (k < n) = true := decide_eq_true hlt
          obtain ⟨z, hzk⟩ : ∃ z, ks[k]? = some z := ⟨_, List.getElem?_eq_getElem (by omega)⟩
          obtain ⟨g, off, hAg, hgl, x0, x1⟩ := rec_elem (hR.below br) hzk
          have HT : Hid (rC (ks.take (k + 1)) = rC (ks.take k) ++ [.int .u8 (z.kind.toNat : Int), .slice z.A z.body.length z.cap]) := by
            obtain ⟨hltm, hgm⟩ := List.getElem?_eq_some_iff.1 hzk
            show _ = _
            rw [List.take_succ_eq_append_getElem hltm, hgm, rC_append]
            simp [rC, RecR.cells]
          have hbs := bel.size
          obtain ⟨zk, zA, zc, zb⟩ := z
          simp only at x0 x1 HT
          subst hAg
          clear hzk hR hk hb HL0 hR5 P4 P5 Q4 Q5 B1 B2 B3 B4
          have b8 : Below wr.heap.size wr (wr.alloc (.cells #[.int .u8 (zk.toNat : Int), .slice zA zb.length zc] 38)) := (Below.refl _ _).alloc (Nat.le_refl _) _
          have LC := lof_calls zk zA zb.length zc (wr.alloc (.cells #[.int .u8 (zk.toNat : Int), .slice zA zb.length zc] 38))
          go_wp2_with fail
          (with_reducible refine LC.mono ?_)
          clear LC
          rintro _ w9 ⟨rfl, b9⟩
          have b89 := b8.trans (b9.mono b8.size)
          have own9 := own_below own b89 (fun i hi => (own.lt i hi).2)
          have bel9 := bel.trans (b89.mono bel.size)
          have hs9 := b89.size
          have HBL := Lib.hid bel9
          clear x0 x1 b8 b9 bel9 own b89
          go_wp2_with ((with_reducible show wpList _ _ _ (⟨some 71, _, _, _, _, _⟩ :: _) _ _); refine wpList_append_rv el_rec rfl (.tmp 67) (.tmp 70) rfl w5.heap.size (.slice AR k cR) k (rC (ks.take k)) rfl (own9.alloc _) (some ⟨w9.heap.size, 0, none⟩) 1 1 [.int .u8 (zk.toNat : Int), .slice zA zb.length zc] rfl rfl (RV.new w9 [.int .u8 (zk.toNat : Int), .slice zA zb.length zc] 40 (0, 0)) (rec_one _ _ _ _) ?f2 ?f3 ?f4 ?_)
          case f2 => unfold maxLen; omega
          case f3 => omega
          case f4 => simp; omega
          intro v10 w10 own10 gr10 hv10
          have HC : Hid (w10.ownsRow w5.heap.size 40 2 v10 (k + 1) (rC (ks.take (k + 1))) ∧ Below w5.heap.size w5 w10) := by
            refine ⟨by rw [HT.out]; exact own10, (HBL.out.alloc HBL.out.size _).grown gr10 (by simp; omega) (fun i hi => ?_)⟩
            exact ((own9.alloc (.cells #[.int .u8 (zk.toNat : Int), .slice zA zb.length zc] 40)).lt i hi).1
          clear own10 gr10 hv10 own9
          go_wp2
          go_roundw
          case rel => exact ⟨k + 1, by omega, by go_num, HC.out.1, HC.out.2⟩
          case measure => simp [intOf]; omega
        · obtain rfl : k = n := by omega
          have dec : decide ((k : Int) < (k : Int)) = false := decide_eq_false (by omega)
          have dec' : decide (k < k) = false := decide_eq_false (by omega)
          have htk : ks.take k = ks := by rw [← hn, List.take_length]
          rw [htk] at own
          obtain ⟨n, rfl⟩ : ∃ n, n = k := ⟨_, rfl⟩
          have L := HL0.out.below bel
          obtain ⟨a1, a2, a3, _, _, _⟩ := L.both.asks
          have hep := L.both.says.epoch
          have hxl0 := L.both.says.lasts
          simp only at a3 hep
          have hfl0 : ∀ i, j.foot i → base ≤ i ∧ i < wr.heap.size := fun i hi => L.both.L.ok.foot_lt hi
          have hbw0 : base ≤ wr.heap.size := Nat.le_trans L.hw L.bel.size
          have hxbl : w4.heap.size < wr.heap.size := L.blk.lt
          have hks : ∀ (w' : World), Below w.heap.size w w' → ∀ z ∈ ks, RecOK w' (fun k => j.foot k ∨ k = w4.heap.size) z := fun w' b z hz => (hk z hz).apart (Nat.le_refl _) b (fun i hi => by
            rcases hi with hi | hi
            · have := (hfl0 i hi).1; omega
            · omega)
          have TC := xturn_calls ⟨xA, xc, xr, xl, xh, xs, xe⟩ ks n hn A cap j.y.size ⟨f, s / 2, 0, 1, [], 0⟩ 0 wr (fun k => j.foot k ∨ k = w4.heap.size) L.both.ok (fun k hk => by
            rcases hk with hk | hk
            · exact (hfl0 k hk).2
            · omega) (hR.below br) (hks wr br) L.both.says a1 a2 (by simp only; omega) (by omega) (by simp only; omega) (by simp only; omega)
          obtain ⟨E, hE⟩ : ∃ E, turnE j.y.size ⟨f, s / 2, 0, 1, [], 0⟩ (ks.map RecR.abs) = E := ⟨_, rfl⟩
          obtain ⟨P', hP'⟩ : ∃ P', PJ.turnS ⟨f, s / 2, 0, 1, [], 0⟩ j.y.size (ks.map RecR.abs) = P' := ⟨_, rfl⟩
          have HP1 : Hid (P'.lasts = P'.rs.length ∧ P'.e ≤ 2 ∧ P'.from_ = f ∧ P'.half = s / 2) := by
            obtain ⟨t1, t2, t3⟩ := turnS_same j.y.size ⟨f, s / 2, 0, 1, [], 0⟩ (ks.map RecR.abs)
            rw [← hP']
            exact ⟨turnS_lasts _ rfl, t1, t2, t3⟩
          rw [XL.val_eq, hE, hP'] at TC
          have HE := Lib.hid hE
          have HP' := Lib.hid hP'
          have q0 : wr.cell? ⟨w4.heap.size, 0, none⟩ = some (.slice xA xr.length xc) := L.blk.at_ rfl
          have q1 : wr.cell? ⟨w4.heap.size, 1, none⟩ = some (.int .i64 (xl : Int)) := L.blk.at_ rfl
          have q2 : wr.cell? ⟨w4.heap.size, 2, none⟩ = some (.int .i64 xh) := L.blk.at_ rfl
          have q3 : wr.cell? ⟨w4.heap.size, 3, none⟩ = some (.int .i64 xs) := L.blk.at_ rfl
          have q4 : wr.cell? ⟨w4.heap.size, 4, none⟩ = some (.int .i64 xe) := L.blk.at_ rfl
          have HL := Lib.hid L
          have Hown := Lib.hid own
          clear L hE hP' own hep hxl0 P4 Q4 B1 B2 B3 B4 HL0 hR5 htk
          go_wp2_with fail
          (with_reducible refine TC.mono ?_)
          clear TC q0 q1 q2 q3 q4
          rintro _ w6 ⟨⟨yA, yc, yr, yl, yh, ys, ye⟩, rfl, hx6, ok6, b6⟩
          rw [XL.val_eq]
          have nb7 := Blk.new w6 31 #[.slice yA yr.length yc, .int .i64 (yl : Int), .int .i64 yh, .int .i64 ys, .int .i64 ye]
          have b7 : Below w6.heap.size w6 (w6.alloc (.cells #[.slice yA yr.length yc, .int .i64 (yl : Int), .int .i64 yh, .int .i64 ys, .int .i64 ye] 31)) := (Below.refl _ _).alloc (Nat.le_refl _) _
          have HX6 := Lib.hid hx6
          have hs6 := b6.size
          clear hx6
          go_wp2_with fail
          have hl7 := nb7.lt
          generalize w6.alloc (.cells #[.slice yA yr.length yc, .int .i64 (yl : Int), .int .i64 yh, .int .i64 ys, .int .i64 ye] 31) = w7 at *
          have b67 := b6.trans (b7.mono b6.size)
          have B7 := br.trans (b67.mono br.size)
          have h7 : BothJ w7 base (fun i => i = w6.heap.size) j ⟨xA, xc, xr, xl, xh, xs, xe⟩ ⟨f, s / 2, 0, 1, [], 0⟩ 0 := HL.out.both.more b67 (fun k hk => .inr ⟨by omega, by omega⟩)
          have ok7 : XOK w7 (fun k => j.foot k ∨ k = w6.heap.size) ⟨yA, yc, yr, yl, yh, ys, ye⟩ := (ok6.mono (G := fun k => j.foot k ∨ k = w6.heap.size) fun k hk hf => hf.elim .inl fun e => by omega).below b7
          have own7 := own_below Hown.out b67 (fun i hi => (Hown.out.lt i hi).2)
          have rv7 := (own_rvfN (F := fun _ => False) own7 (fun _ hk => hk.elim)).rv
          have JC := jTurn_calls j ⟨f, s / 2, 0, 1, [], 0⟩ ks AR cR w7 base h7.L (by simp only; omega) rv7 (fun z hz => (hks w7 B7 z hz).mono fun _ _ hk => hk.elim) (by omega) (hT.below B7) (by omega) (by omega)
          rw [hn, HE.out, HP'.out] at JC
          have H7 := Lib.hid h7
          clear own7 rv7 h7 ok6 hR hk hb hks
          (with_reducible refine JC.mono ?_)
          clear JC
          rintro _ w8 ⟨rfl, n8⟩
          obtain ⟨j8, BJ8, hG8, hD8, ⟨hz8, hl8⟩, K8, _⟩ := H7.out.step (x' := ⟨yA, yc, yr, yl, yh, ys, ye⟩) HX6.out ok7 n8
          obtain ⟨p1, p2, p3, p4⟩ := HP1.out
          have bel8 : Below base w5 w8 := (HL.out.bel.trans (b67.mono hbw0)).trans (K8.below (fun i _ hi => (hfl0 i hi).1) (by omega))
          have L : LoopJ w5 base w6.heap.size j.G j.y.D j.y.lp.length j.y.size f (s / 2) 1 0 1 j8 ⟨yA, yc, yr, yl, yh, ys, ye⟩ P' w8 :=
            ⟨BJ8, hG8, hD8, hz8, hl8, p3, p4, by omega, (K8.block _ hl7 (H7.out.no _ rfl)).trans nb7, bel8, by omega, HL.out.hw⟩
          have br8 : Below w.heap.size w w8 := B5.trans (L.bel.mono (by omega))
          have Pr := P5.below (L.bel.mono (by omega : w.heap.size + 1 ≤ base)) (by omega)
          have Qr := Q5.below (L.bel.mono (by omega : w.heap.size + 1 + 1 ≤ base)) (by omega)
          have c0 : w8.cell? ⟨w.heap.size + 1, 0, none⟩ = some (.slice A2 kn cap2) := Qr.at_ rfl
          have c1 : w8.cell? ⟨w.heap.size + 1, 1, none⟩ = some (.int .i64 torn) := Qr.at_ rfl
          have hbw : base ≤ w8.heap.size := Nat.le_trans L.hw L.bel.size
          have hfl : ∀ i, j8.y.foot i → base ≤ i := fun i hi => (L.both.L.ok.dk.foot_lt hi).1
          have hrc : RVF w8 j8.y.foot A2 (cL kp) := rv_far hR2 br8 (fun i hi => by have := hfl i hi; omega)
          have CC := cut_calls j8.y kp A2 cap2 torn w8 base L.both.L.ok.dk (by have := L.both.L.waits; omega) (by omega) hrc
          rw [L.D, hkn0] at CC
          clear n8 BJ8 K8 nb7 b7 b6 b67 B7 H7 HL Hown HX6 ok7 hG8 hD8 hz8 hl8
          go_wp2_with fail
          (with_reducible refine CC.mono ?_)
          clear CC c0 c1
          rintro _ w9 ⟨rfl, n9⟩
          obtain ⟨y9, C9⟩ := cut_state n9
          have OC := on_next y9 w9 base C9.ok
          rw [C9.D, L.D] at OC
          go_wp2_with fail
          (with_reducible refine OC.mono ?_)
          clear OC
          rintro _ w10 ⟨rfl, n10⟩
          obtain ⟨y10, C10⟩ := on_state C9 n10
          have hb10 : base ≤ w10.heap.size := Nat.le_trans hbw C10.kept.size
          have b10 : Below base w5 w10 := L.bel.trans (C10.lower L.both.L.ok.dk hbw)
          have Bw10 : Below w.heap.size w w10 := br8.trans ((C10.lower L.both.L.ok.dk hbw).mono (by omega))
          have P10 := P5.below (b10.mono (by omega : w.heap.size + 1 ≤ base)) (by omega)
          have c2 : w10.cell? ⟨w.heap.size, 2, none⟩ = some (.int .i64 (f : Int)) := P10.at_ rfl
          have c3 : w10.cell? ⟨w.heap.size, 3, none⟩ = some (.int .i64 (s : Int)) := P10.at_ rfl
          have OB := reopen_calls (f := f) (s := s) C10 (by rw [L.len, L.size]; exact HQ.out) (L.cut kp torn) L.both.L.u (by have := L.e; omega) (hT.below Bw10) hb10 (by omega)
          rw [L.D] at OB
          clear n9 n10 C9 Qr P5 Q5
          go_wp2_with fail
          (with_reducible refine OB.mono ?_)
          clear OB
          rintro _ w11 ⟨m, kk, rfl, Lm, q1, q2, _, hmD, ⟨hmz, hml⟩, hwt, K11, hmf⟩
          have hll := q1 rfl
          obtain rfl : kk = P'.rs.length := by omega
          rw [List.take_length] at Lm
          obtain ⟨X11, k11, B11⟩ := L.disk (C10.then K11)
          have HB11 := Lib.hid (B5.trans (B11.mono (by omega)))
          have hyr : yr.map RecR.abs = P'.rs := L.both.says.rs
          have SM : ∀ w', Below w11.heap.size w11 w' → Calls Tryd.prog 15 #[.pointer (some ⟨m.G, 0, none⟩), .agg #[.slice yA yr.length yc, .int .i64 (yl : Int), .int .i64 yh, .int .i64 ys, .int .i64 ye]] w' (fun e w'' => e = .returned (.bool true) ∧ Below w'.heap.size w' w'') :=
            fun w' b => same_calls m ⟨f, s / 2, 1 - P'.use, P'.e + 1, P'.rs, P'.rs.length⟩ ⟨yA, yc, yr, yl, yh, ys, ye⟩ P'.rs.length rfl w' base (Lm.below b) (X11.below b) hyr
          have f0 : w11.cell? ⟨w6.heap.size, 0, none⟩ = some (.slice yA yr.length yc) := k11.at_ rfl
          have f1 : w11.cell? ⟨w6.heap.size, 1, none⟩ = some (.int .i64 (yl : Int)) := k11.at_ rfl
          have f2 : w11.cell? ⟨w6.heap.size, 2, none⟩ = some (.int .i64 yh) := k11.at_ rfl
          have f3 : w11.cell? ⟨w6.heap.size, 3, none⟩ = some (.int .i64 ys) := k11.at_ rfl
          have f4 : w11.cell? ⟨w6.heap.size, 4, none⟩ = some (.int .i64 ye) := k11.at_ rfl
          clear Lm K11 X11 k11 L hmf hwt hyr q1 q2 hll hmD hmz hml c2 c3 C10 hrc hR2 hfl P10 Pr B11 Bw10 b10 HP1 p1 p2 p3 p4
          go_wp2_with fail
          (with_reducible refine (SM w11 (Below.refl _ _)).mono ?_)
          rintro _ w12 ⟨rfl, b12⟩
          have HF := Lib.hid (HB11.out.trans (b12.mono HB11.out.size))
          clear SM f0 f1 f2 f3 f4 b12
          go_wp2
          go_ret
          exact ⟨rfl, HF.out⟩
end Go.Proofs.YtpojlchikaffhaaDoor
