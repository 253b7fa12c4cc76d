/-
  The walk of the statements' open.
-/
import Derived.Test.YtpojlchikaffhaaDoorJourFresh
namespace Go.Proofs.YtpojlchikaffhaaDoor
open Go.RowKit DiskP SumP PageP JourP

set_option maxHeartbeats 3200000 in
theorem lopen_calls (P : PlaceR) (w : World) (hT : Tab w) (h1 : P.all ≤ 400) (h2 : P.size ≤ 512) (h3 : P.sectors ≤ 400) :
    Calls Tryd.prog 11 #[.agg P.cells] w (RetO w P) := by
  obtain ⟨pa, ps, pf, pn⟩ := P
  simp only at h1 h2 h3
  have hg := hT.lt
  have hb0 := (Blk.new w 23 #[.int .i64 pa, .int .i64 ps, .int .i64 pf, .int .i64 pn]).alloc (.cells #[.slice none 0 0, .int .i64 0, .int .i64 0, .int .i64 0, .int .i64 0] 31)
  have hz0 := Blk.new (w.alloc (.cells #[.int .i64 pa, .int .i64 ps, .int .i64 pf, .int .i64 pn] 23)) 31 #[.slice none 0 0, .int .i64 0, .int .i64 0, .int .i64 0, .int .i64 0]
  simp only [World.size_alloc] at hz0
  have B1 : Below w.heap.size w ((w.alloc (.cells #[.int .i64 pa, .int .i64 ps, .int .i64 pf, .int .i64 pn] 23)).alloc (.cells #[.slice none 0 0, .int .i64 0, .int .i64 0, .int .i64 0, .int .i64 0] 31)) := ((Below.refl _ _).alloc (Nat.le_refl _) _).alloc (by simp) _
  show Calls Tryd.prog 11 #[.agg #[.int .i64 pa, .int .i64 ps, .int .i64 pf, .int .i64 pn]] w _
  by_cases hbad : pa < 1 ∨ 65536 < pa ∨ ps < 16 ∨ 4096 < ps
  · have NC := fun w' => new_no pa ps w' hbad
    have HF : Hid (∀ w', Below w.heap.size w w' → RetO w ⟨pa, ps, pf, pn⟩ (.returned (.tuple #[.pointer none, .pointer none, .agg #[.slice none 0 0, .int .i64 0, .int .i64 0, .int .i64 0, .int .i64 0], .bool false])) w') := fun w' b => .inl ⟨_, rfl, b⟩
    clear hbad hT hb0 hz0
    go_enter Tryd.func11, Tryd.ntmps11
    go_wp2_with fail
    (with_reducible refine (NC _).mono ?_)
    clear NC
    rintro _ w2 ⟨rfl, rfl⟩
    go_wp2_with fail
    exact bodyPost_ret (v := .tuple #[.pointer none, .pointer none, .agg #[.slice none 0 0, .int .i64 0, .int .i64 0, .int .i64 0, .int .i64 0], .bool false]) (by simp [results, Tryd.results11, go_sem, *]) rfl (HF.out _ B1)
  · obtain ⟨an, han⟩ := Int.eq_ofNat_of_zero_le (show 0 ≤ pa by omega)
    obtain ⟨sn, hsn⟩ := Int.eq_ofNat_of_zero_le (show 0 ≤ ps by omega)
    subst han hsn
    have NC := fun w' => new_calls an sn w' (by omega) (by omega) (by omega) (by omega)
    have hbl := hb0.lt
    have hzl := hz0.lt
    go_enter Tryd.func11, Tryd.ntmps11
    go_wp2_with fail
    generalize ((w.alloc (.cells #[.int .i64 (an : Int), .int .i64 (sn : Int), .int .i64 pf, .int .i64 pn] 23)).alloc (.cells #[.slice none 0 0, .int .i64 0, .int .i64 0, .int .i64 0, .int .i64 0] 31)) = w1 at *
    (with_reducible refine (NC _).mono ?_)
    clear NC
    rintro _ w2 ⟨y, rfl, hd2, ha2, hl2, hs2, b2⟩
    have B2 := B1.trans (b2.mono B1.size)
    have hb2 := hb0.below b2 hbl
    have hz2 := hz0.below b2 hzl
    have c0 : w2.cell? ⟨w.heap.size, 0, none⟩ = some (.int .i64 (an : Int)) := hb2.at_ rfl
    have c1 : w2.cell? ⟨w.heap.size, 1, none⟩ = some (.int .i64 (sn : Int)) := hb2.at_ rfl
    have c2 : w2.cell? ⟨w.heap.size, 2, none⟩ = some (.int .i64 pf) := hb2.at_ rfl
    have c3 : w2.cell? ⟨w.heap.size, 3, none⟩ = some (.int .i64 pn) := hb2.at_ rfl
    have Hl2 := Lib.hid hl2
    have Hs2 := Lib.hid hs2
    have Ha2 := Lib.hid ha2
    have hs1 := B1.size
    have hsz2 := b2.size
    by_cases hq : goodP (an : Int) (sn : Int) pf pn
    · obtain ⟨q1, q2, q3, q4, q5⟩ := hq
      obtain ⟨fN, hfN⟩ := Int.eq_ofNat_of_zero_le q2
      obtain ⟨sN, hsN⟩ := Int.eq_ofNat_of_zero_le (show 0 ≤ pn by omega)
      subst hfN hsN
      have hq : goodP (an : Int) (sn : Int) (fN : Int) (sN : Int) := ⟨q1, q2, q3, q4, q5⟩
      have OB := jopen_fresh y fN sN an sn w2 w1.heap.size hd2 ha2 hl2 hs2 hq (hT.below B2) (by omega) (by omega)
      have XB := fun w' => xopen_good (an : Int) (sn : Int) (fN : Int) (sN : Int) w' hq (by omega) (by omega)
      clear hl2 hs2 ha2 hbad hT hb0 hz0
      go_wp2_with fail
      (with_reducible refine OB.mono ?_)
      clear OB
      rintro _ w3 ⟨j, kk, rfl, hL3, _, _, _, _, ⟨hjz, hjl0⟩, _, k3, _⟩
      have b3 : Below w1.heap.size w2 w3 := k3.below (fun k _ hk => (hd2.foot_lt hk).1) hsz2
      have hw3 : w2.heap.size ≤ w3.heap.size := k3.size
      have hjl : (j.y.lp.length : Int) = (an : Int) := by
        rw [hjl0, Hl2.out]
      have B3 := B2.trans (b3.mono hs1)
      have hb3 := hb2.below b3 hbl
      have c0 : w3.cell? ⟨w.heap.size, 0, none⟩ = some (.int .i64 (an : Int)) := hb3.at_ rfl
      have c1 : w3.cell? ⟨w.heap.size, 1, none⟩ = some (.int .i64 (sn : Int)) := hb3.at_ rfl
      have c2 : w3.cell? ⟨w.heap.size, 2, none⟩ = some (.int .i64 (fN : Int)) := hb3.at_ rfl
      have c3 : w3.cell? ⟨w.heap.size, 3, none⟩ = some (.int .i64 (sN : Int)) := hb3.at_ rfl
      go_wp2_with fail
      (with_reducible refine (XB _).mono ?_)
      clear XB
      rintro _ w4 ⟨rfl, b4⟩
      rw [show (XL.fresh ((sN : Int) / 2) (sn : Int)).val = .agg #[.slice none 0 0, .int .i64 0, .int .i64 ((sN : Int) / 2), .int .i64 (sn : Int), .int .i64 1] from rfl]
      have b4' := b4
      have B4 := B3.trans (b4.mono B3.size)
      have hz4 := (hz2.below b3 hzl).below b4 (hz2.below b3 hzl).lt
      clear c0 c1 c2 c3
      have nb5 := Blk.new w4 31 #[.slice none 0 0, .int .i64 0, .int .i64 ((sN : Int) / 2), .int .i64 (sn : Int), .int .i64 1]
      have b5 : Below w4.heap.size w4 (w4.alloc (.cells #[.slice none 0 0, .int .i64 0, .int .i64 ((sN : Int) / 2), .int .i64 (sn : Int), .int .i64 1] 31)) := (Below.refl _ _).alloc (Nat.le_refl _) _
      have B5 := B4.trans (b5.mono B4.size)
      have hz5 := hz4.below b5 hz4.lt
      have hs4 := Nat.le_trans hw3 b4'.size
      have hNR : w4.heap.size ≠ w.heap.size + 1 := by omega
      obtain ⟨N, hN⟩ : ∃ N, N = w4.heap.size := ⟨_, rfl⟩
      go_wp2_with fail
      generalize w4.alloc (.cells #[.slice none 0 0, .int .i64 0, .int .i64 ((sN : Int) / 2), .int .i64 (sn : Int), .int .i64 1] 31) = w5 at *
      rw [← hN] at nb5 hNR ⊢
      have HS : Hid (∀ wq, Blk wq N 31 #[.slice none 0 0, .int .i64 0, .int .i64 ((sN : Int) / 2), .int .i64 (sn : Int), .int .i64 1] → (wq.cell? ⟨N, 0, none⟩ = some (.slice none 0 0) ∧ wq.cell? ⟨N, 1, none⟩ = some (.int .i64 0) ∧ wq.cell? ⟨N, 2, none⟩ = some (.int .i64 ((sN : Int) / 2)) ∧ wq.cell? ⟨N, 3, none⟩ = some (.int .i64 (sn : Int)) ∧ wq.cell? ⟨N, 4, none⟩ = some (.int .i64 1))) := fun wq q1 => ⟨q1.at_ rfl, q1.at_ rfl, q1.at_ rfl, q1.at_ rfl, q1.at_ rfl⟩
      have f3 := HS.out w5.drew nb5
      have z0 : w5.cell? ⟨w.heap.size + 1, 0, none⟩ = some (.slice none 0 0) := hz5.at_ rfl
      have z1 : w5.cell? ⟨w.heap.size + 1, 1, none⟩ = some (.int .i64 0) := hz5.at_ rfl
      have z2 : w5.cell? ⟨w.heap.size + 1, 2, none⟩ = some (.int .i64 0) := hz5.at_ rfl
      have z3 : w5.cell? ⟨w.heap.size + 1, 3, none⟩ = some (.int .i64 0) := hz5.at_ rfl
      have z4 : w5.cell? ⟨w.heap.size + 1, 4, none⟩ = some (.int .i64 0) := hz5.at_ rfl
      have y0 := hz5.frozen 0
      have y1 := hz5.frozen 1
      have y2 := hz5.frozen 2
      have y3 := hz5.frozen 3
      have y4 := hz5.frozen 4
      have hL5 := (hL3.below b4).below b5
      have HE : Hid (∀ (v0 v1 v2 v3 v4 : Value), RetO w ⟨(an : Int), (sn : Int), (fN : Int), (sN : Int)⟩ (.returned (.tuple #[.pointer (some ⟨j.y.D, 0, none⟩), .pointer (some ⟨j.G, 0, none⟩), .agg #[.slice none 0 0, .int .i64 0, .int .i64 ((sN : Int) / 2), .int .i64 (sn : Int), .int .i64 1], .bool true])) (((((w5.setCell ⟨w.heap.size + 1, 0, none⟩ v0).setCell ⟨w.heap.size + 1, 1, none⟩ v1).setCell ⟨w.heap.size + 1, 2, none⟩ v2).setCell ⟨w.heap.size + 1, 3, none⟩ v3).setCell ⟨w.heap.size + 1, 4, none⟩ v4).drew) := by
        intro v0 v1 v2 v3 v4
        have K : Kept (fun k => k = w.heap.size + 1) w5 (((((w5.setCell ⟨w.heap.size + 1, 0, none⟩ v0).setCell ⟨w.heap.size + 1, 1, none⟩ v1).setCell ⟨w.heap.size + 1, 2, none⟩ v2).setCell ⟨w.heap.size + 1, 3, none⟩ v3).setCell ⟨w.heap.size + 1, 4, none⟩ v4).drew :=
          ((((((Kept.refl (fun k => k = w.heap.size + 1) w5).setCell (p := ⟨w.heap.size + 1, 0, none⟩) (.inl rfl) v0).setCell (p := ⟨w.heap.size + 1, 1, none⟩) (.inl rfl) v1).setCell (p := ⟨w.heap.size + 1, 2, none⟩) (.inl rfl) v2).setCell (p := ⟨w.heap.size + 1, 3, none⟩) (.inl rfl) v3).setCell (p := ⟨w.heap.size + 1, 4, none⟩) (.inl rfl) v4).drew
        have hB := fresh_both (X := fun k => k = w.heap.size + 1) (s := sN) Hs2.out hL5 hjz (fun k hk => by subst hk; exact hz5.lt) (fun k hk hf => by subst hk; have := (hL5.ok.foot_lt hf).1; omega)
        refine .inr ⟨w1.heap.size, j, XL.fresh ((sN : Int) / 2) (sn : Int), fN, sN, rfl, ((((((B5.setCell (by simp) _).setCell (by simp) _).setCell (by simp) _).setCell (by simp) _).setCell (by simp) _).drew), hs1, ?_, (hB.store K).less (fun _ h => h.elim), rfl, rfl, hq, ?_, ?_⟩
        · have := K.size
          have := b5.size
          have := b4.size
          have := hw3
          omega
        · show (an : Int) = (j.y.lp.length : Int)
          rw [hjl]
        · show (sn : Int) = (j.y.size : Int)
          rw [hjz, Hs2.out]
      clear nb5 hz5 hz4 hz2 hb2 B5 B4 B2 B1 b5 b4 b2 hN hL5 hL3 b4'
      obtain ⟨g0, g1, g2, g3, g4⟩ := f3
      clear HS
      go_region
      go_wp2_with fail
      exact bodyPost_ret (v := .tuple #[.pointer (some ⟨j.y.D, 0, none⟩), .pointer (some ⟨j.G, 0, none⟩), .agg #[.slice none 0 0, .int .i64 0, .int .i64 ((sN : Int) / 2), .int .i64 (sn : Int), .int .i64 1], .bool true]) (by simp [results, Tryd.results11, go_sem, *]) rfl (HE.out _ _ _ _ _)
    · have OB := jopen_bad y pf pn w2 w1.heap.size hd2 (by rw [hl2, hs2]; exact hq)
      have XB := fun w' => xopen_bad (an : Int) (sn : Int) pf pn w' hq (by omega) (by omega) (by omega) (by omega) (by omega)
      have HF : Hid (∀ w' v0, Below w.heap.size w w' → RetO w ⟨(an : Int), (sn : Int), pf, pn⟩ (.returned (.tuple #[v0, .pointer none, .agg #[.slice none 0 0, .int .i64 0, .int .i64 0, .int .i64 0, .int .i64 0], .bool false])) w') := fun w' v0 b => .inl ⟨_, rfl, b⟩
      clear hl2 hs2 ha2 hbad hT hb0 hz0 hd2 hq
      go_wp2_with fail
      (with_reducible refine OB.mono ?_)
      clear OB
      rintro _ w3 ⟨rfl, q, rfl⟩
      have B3 : Below w.heap.size w (w2.drewN q) := ⟨B2.os, B2.tape, B2.output, B2.size, B2.block⟩
      go_wp2_with fail
      (with_reducible refine (XB _).mono ?_)
      clear XB
      rintro _ w4 ⟨rfl, b4⟩
      have b4' : Below w2.heap.size w2 w4 := ⟨b4.os, b4.tape, b4.output, b4.size, b4.block⟩
      have B4 := B3.trans (b4.mono B3.size)
      have hz4 := hz2.below b4' hz2.lt
      clear c0 c1 c2 c3
      have nb5 := Blk.new w4 31 #[.slice none 0 0, .int .i64 0, .int .i64 0, .int .i64 0, .int .i64 0]
      have b5 : Below w4.heap.size w4 (w4.alloc (.cells #[.slice none 0 0, .int .i64 0, .int .i64 0, .int .i64 0, .int .i64 0] 31)) := (Below.refl _ _).alloc (Nat.le_refl _) _
      have B5 := B4.trans (b5.mono B4.size)
      have hz5 := hz4.below b5 hz4.lt
      have hs4 := b4'.size
      have hNR : w4.heap.size ≠ w.heap.size + 1 := by omega
      obtain ⟨N, hN⟩ : ∃ N, N = w4.heap.size := ⟨_, rfl⟩
      go_wp2_with fail
      generalize w4.alloc (.cells #[.slice none 0 0, .int .i64 0, .int .i64 0, .int .i64 0, .int .i64 0] 31) = w5 at *
      rw [← hN] at nb5 hNR ⊢
      have HS : Hid (∀ wq, Blk wq N 31 #[.slice none 0 0, .int .i64 0, .int .i64 0, .int .i64 0, .int .i64 0] → (wq.cell? ⟨N, 0, none⟩ = some (.slice none 0 0) ∧ wq.cell? ⟨N, 1, none⟩ = some (.int .i64 0) ∧ wq.cell? ⟨N, 2, none⟩ = some (.int .i64 0) ∧ wq.cell? ⟨N, 3, none⟩ = some (.int .i64 0) ∧ wq.cell? ⟨N, 4, none⟩ = some (.int .i64 0))) := fun wq q1 => ⟨q1.at_ rfl, q1.at_ rfl, q1.at_ rfl, q1.at_ rfl, q1.at_ rfl⟩
      have f3 := HS.out w5.drew nb5
      have z0 : w5.cell? ⟨w.heap.size + 1, 0, none⟩ = some (.slice none 0 0) := hz5.at_ rfl
      have z1 : w5.cell? ⟨w.heap.size + 1, 1, none⟩ = some (.int .i64 0) := hz5.at_ rfl
      have z2 : w5.cell? ⟨w.heap.size + 1, 2, none⟩ = some (.int .i64 0) := hz5.at_ rfl
      have z3 : w5.cell? ⟨w.heap.size + 1, 3, none⟩ = some (.int .i64 0) := hz5.at_ rfl
      have z4 : w5.cell? ⟨w.heap.size + 1, 4, none⟩ = some (.int .i64 0) := hz5.at_ rfl
      have y0 := hz5.frozen 0
      have y1 := hz5.frozen 1
      have y2 := hz5.frozen 2
      have y3 := hz5.frozen 3
      have y4 := hz5.frozen 4
      have HE : Hid (∀ (v0 v1 v2 v3 v4 : Value), Below w.heap.size w (((((w5.setCell ⟨w.heap.size + 1, 0, none⟩ v0).setCell ⟨w.heap.size + 1, 1, none⟩ v1).setCell ⟨w.heap.size + 1, 2, none⟩ v2).setCell ⟨w.heap.size + 1, 3, none⟩ v3).setCell ⟨w.heap.size + 1, 4, none⟩ v4).drew) :=
        fun v0 v1 v2 v3 v4 => (((((B5.setCell (by simp) _).setCell (by simp) _).setCell (by simp) _).setCell (by simp) _).setCell (by simp) _).drew
      clear nb5 hz5 hz4 hz2 hb2 B5 B4 B3 B2 B1 b5 b4 b4' b2 hN
      obtain ⟨g0, g1, g2, g3, g4⟩ := f3
      clear HS
      go_region
      go_wp2_with fail
      exact bodyPost_ret (v := .tuple #[.pointer (some ⟨y.D, 0, none⟩), .pointer none, .agg #[.slice none 0 0, .int .i64 0, .int .i64 0, .int .i64 0, .int .i64 0], .bool false]) (by simp [results, Tryd.results11, go_sem, *]) rfl (HF.out _ _ (HE.out _ _ _ _ _))
end Go.Proofs.YtpojlchikaffhaaDoor
