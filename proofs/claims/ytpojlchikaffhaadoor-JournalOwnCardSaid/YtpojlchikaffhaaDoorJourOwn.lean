/-
  The statements' JournalOwn, walked.
-/
import Derived.Test.YtpojlchikaffhaaDoorJourLoop
import Derived.Test.YtpojlchikaffhaaDoorJourWakes
import Derived.Test.YtpojlchikaffhaaDoorJourOwnA
namespace Go.Proofs.YtpojlchikaffhaaDoor
open Go.RowKit DiskP SumP PageP JourP

theorem addS_none (size : Nat) (p : PJ) (r : Rec) (h : p.rs = []) : (p.addS size r).rs = [] ∨ (p.addS size r).rs = [r] := by
  unfold PJ.addS
  split
  · right; show p.rs ++ [r] = _; rw [h]; rfl
  · exact .inl h
theorem addS_same (size : Nat) (p : PJ) (r : Rec) : (p.addS size r).e = p.e ∧ (p.addS size r).from_ = p.from_ ∧ (p.addS size r).half = p.half := by
  unfold PJ.addS
  split <;> exact ⟨rfl, rfl, rfl⟩
/-- The first byte of a row of the call's own. -/
theorem own_head {w : World} {N n c : Nat} {A : Option Addr} {bl : List UInt8} (h : w.ownsRow N 5 1 (.slice A n c) n (cB bl)) (hn : 0 < n) :
    ∃ (g : Nat) (b : UInt8), A = some ⟨g, 0, none⟩ ∧ N ≤ g ∧ g < w.heap.size ∧ w.cell? ⟨g, 0, none⟩ = some (.int .u8 (b.toNat : Int)) ∧ w.frozen? ⟨g, 0, none⟩ = false := by
  have hl := h.1
  rw [cB_len, Nat.mul_one] at hl
  rcases h.2 with ⟨_, h0⟩ | ⟨g, cap, cur, e1, h1, h2, _⟩
  · omega
  · injection e1 with e1 _ e3
    subst e1 e3
    have q := h.cellAt 0 (by omega)
    have hlen : 0 < (cB bl).length := by rw [cB_len]; omega
    rw [List.getElem?_eq_getElem hlen, cB_get hlen] at q
    exact ⟨g, _, rfl, h1, lt_of_block h2, q, frozen_of_row w g 0 cur _ h2⟩
set_option maxHeartbeats 6400000 in
set_option maxRecDepth 100000 in
theorem jourOwn_walk (P : PlaceR) (bl : List UInt8) (n : Nat) (hn : bl.length = n) (A : Option Addr) (cap : Nat) (w : World) (hT : Tab w) (hR : RV w A (cB bl)) (hlc : n ≤ cap) (hcap : cap ≤ 9223372036854775807) :
    Calls Tryd.prog 3 #[.agg P.cells, .slice A n cap] w fun e w' => e = .returned (.bool true) ∧ Below w.heap.size w w' := by
  obtain ⟨pa, ps, pf, pn⟩ := P
  have hg := hT.lt
  have B1 : Below w.heap.size w (w.alloc (.cells #[.int .i64 pa, .int .i64 ps, .int .i64 pf, .int .i64 pn] 23)) := (Below.refl _ _).alloc (Nat.le_refl _) _
  have P1 : Blk (w.alloc (.cells #[.int .i64 pa, .int .i64 ps, .int .i64 pf, .int .i64 pn] 23)) w.heap.size 23 #[.int .i64 pa, .int .i64 ps, .int .i64 pf, .int .i64 pn] := Blk.new w 23 #[.int .i64 pa, .int .i64 ps, .int .i64 pf, .int .i64 pn]
  have WC := fun (w' : World) (b : Below w.heap.size w w') => wakes_calls w' (hT.below b)
  have SC : ∀ (w' : World), Below w.heap.size w w' → Calls Tryd.prog 10 #[.agg #[.int .i64 pa, .int .i64 ps, .int .i64 pf, .int .i64 pn], .slice none 0 0] w' (RetSmall w' ⟨pa, ps, pf, pn⟩ []) := fun w' b => small_calls ⟨pa, ps, pf, pn⟩ [] 0 rfl none 0 w' RV.nil (fun a ha => by simp at ha) (by omega)
  have OC : ∀ (w' : World), Below w.heap.size w w' → pa ≤ 400 → ps ≤ 512 → pn ≤ 400 → Calls Tryd.prog 11 #[.agg #[.int .i64 pa, .int .i64 ps, .int .i64 pf, .int .i64 pn]] w' (RetO w' ⟨pa, ps, pf, pn⟩) := fun w' b h1 h2 h3 => lopen_calls ⟨pa, ps, pf, pn⟩ w' (hT.below b) h1 h2 h3
  show Calls Tryd.prog 3 #[.agg #[.int .i64 pa, .int .i64 ps, .int .i64 pf, .int .i64 pn], .slice A n cap] w _
  go_enter Tryd.func3, Tryd.ntmps3
  go_wp2_with fail
  generalize (w.alloc (.cells #[.int .i64 pa, .int .i64 ps, .int .i64 pf, .int .i64 pn] 23)) = w1 at *
  (with_reducible refine (WC w1 B1).mono ?_)
  clear WC
  rintro _ w2 ⟨rfl, b2⟩
  have B2 := B1.trans (b2.mono B1.size)
  have P2 := P1.below b2 P1.lt
  clear P1 b2
  have c0 : w2.cell? ⟨w.heap.size, 0, none⟩ = some (.int .i64 pa) := P2.at_ rfl
  have c1 : w2.cell? ⟨w.heap.size, 1, none⟩ = some (.int .i64 ps) := P2.at_ rfl
  have c2 : w2.cell? ⟨w.heap.size, 2, none⟩ = some (.int .i64 pf) := P2.at_ rfl
  have c3 : w2.cell? ⟨w.heap.size, 3, none⟩ = some (.int .i64 pn) := P2.at_ rfl
  go_wp2_with fail
  (with_reducible refine (SC w2 B2).mono ?_)
  clear SC
  rintro _ w3 ⟨(⟨rfl, hS⟩ | rfl), b3⟩
  rotate_left
  · clear OC
    have HF := Lib.hid (B2.trans (b3.mono B2.size))
    go_wp2_with fail
    go_ret
    exact ⟨rfl, HF.out⟩
  have B3 := B2.trans (b3.mono B2.size)
  by_cases h200 : 200 < n
  · have dk : decide (200 < n) = true := decide_eq_true h200
    have dk' : decide (200 < (n : Int)) = true := decide_eq_true (by omega)
    clear OC
    have HF := Lib.hid B3
    go_wp2_with fail
    go_ret
    exact ⟨rfl, HF.out⟩
  have dk : decide (200 < n) = false := decide_eq_false h200
  have dk' : decide (200 < (n : Int)) = false := decide_eq_false (by omega)
  by_cases h0 : n = 0
  · subst h0
    clear OC
    have HF := Lib.hid B3
    go_wp2_with fail
    go_ret
    exact ⟨rfl, HF.out⟩
  have hn0 : 0 < n := by omega
  have dn : (n == 0) = false := by rw [beq_eq_false_iff_ne]; exact h0
  have dn' : ((n : Int) == 0) = false := by rw [beq_eq_false_iff_ne]; omega
  have P3 := P2.below b3 P2.lt
  obtain ⟨_, _, h1, h2, h3⟩ := hS
  simp only at h1 h2 h3
  clear c0 c1 c2 c3
  have c0 : w3.cell? ⟨w.heap.size, 0, none⟩ = some (.int .i64 pa) := P3.at_ rfl
  have c1 : w3.cell? ⟨w.heap.size, 1, none⟩ = some (.int .i64 ps) := P3.at_ rfl
  have c2 : w3.cell? ⟨w.heap.size, 2, none⟩ = some (.int .i64 pf) := P3.at_ rfl
  have c3 : w3.cell? ⟨w.heap.size, 3, none⟩ = some (.int .i64 pn) := P3.at_ rfl
  go_wp2_with fail
  (with_reducible refine (OC w3 B3 h1 h2 h3).mono ?_)
  clear OC c0 c1 c2 c3
  rintro _ w4 (⟨v0, rfl, b4⟩ | ⟨base, j, x, f, s, rfl, b4, hb1, hb2, BJ, hf, hs, hq, hlen, hsz⟩)
  · have HF := Lib.hid (B3.trans (b4.mono B3.size))
    go_wp2_with fail
    go_ret
    exact ⟨rfl, HF.out.alloc HF.out.size _⟩
  have B4 := B3.trans (b4.mono B3.size)
  have hs3 := B3.size
  have hs4 := b4.size
  obtain ⟨xA, xc, xr, xl, xh, xs, xe⟩ := x
  rw [XL.val_eq]
  clear hlen hsz hq P2 P3 hf hs
  have nb5 := Blk.new w4 31 #[.slice xA xr.length xc, .int .i64 (xl : Int), .int .i64 xh, .int .i64 xs, .int .i64 xe]
  have b5 : Below w4.heap.size w4 (w4.alloc (.cells #[.slice xA xr.length xc, .int .i64 (xl : Int), .int .i64 xh, .int .i64 xs, .int .i64 xe] 31)) := (Below.refl _ _).alloc (Nat.le_refl _) _
  have HBJ := Lib.hid BJ
  clear BJ
  have rv5 := ((hR.below B4).alloc (.cells #[.slice xA xr.length xc, .int .i64 (xl : Int), .int .i64 xh, .int .i64 xs, .int .i64 xe] 31)).alloc (.cells #[] 5)
  have hl5 := nb5.lt
  go_wp2_with ((with_reducible show wpList _ _ _ (⟨some 40, _, _, _, _, _⟩ :: _) _ _); refine wpList_append_rv el_u8 rfl (.tmp 38) (.tmp 39) rfl (w4.heap.size + 1) (.slice (some ⟨w4.heap.size + 1, 0, none⟩) 0 0) 0 [] rfl (own_emptyA (w4.alloc (.cells #[.slice xA xr.length xc, .int .i64 (xl : Int), .int .i64 xh, .int .i64 xs, .int .i64 xe] 31)) 5 1 (w4.heap.size + 1) (by simp) (Nat.le_refl _)) A n cap (cB bl) rfl (by rw [cB_len, hn, Nat.mul_one]) rv5 (cB_one bl) ?f2 ?f3 ?f4 ?_)
  case f2 => unfold maxLen; omega
  case f3 => omega
  case f4 => simp
  intro v6 w6 own6 gr6 hv6
  have own6' : w6.ownsRow (w4.heap.size + 1) 5 1 v6 n (cB bl) := by simpa using own6
  obtain ⟨A6, c6, rfl, _, _⟩ := own_form own6'
  have hz5 : (w4.alloc (.cells #[.slice xA xr.length xc, .int .i64 (xl : Int), .int .i64 xh, .int .i64 xs, .int .i64 xe] 31)).heap.size = w4.heap.size + 1 := by simp
  have b6 : Below (w4.alloc (.cells #[.slice xA xr.length xc, .int .i64 (xl : Int), .int .i64 xh, .int .i64 xs, .int .i64 xe] 31)).heap.size (w4.alloc (.cells #[.slice xA xr.length xc, .int .i64 (xl : Int), .int .i64 xh, .int .i64 xs, .int .i64 xe] 31)) w6 := ((Below.refl _ _).alloc (Nat.le_refl _) _).grown gr6 (by simp) (fun j hj => by have hj : w4.heap.size + 1 = j := Option.some.inj hj; omega)
  clear own6 gr6 hv6 rv5
  generalize w4.alloc (.cells #[.slice xA xr.length xc, .int .i64 (xl : Int), .int .i64 xh, .int .i64 xs, .int .i64 xe] 31) = w5 at *
  have HL0 := Lib.hid (LoopJ.start (f := f) (h := s / 2) (e0 := 1) HBJ.out hb2 b5 hl5 nb5 rfl rfl rfl)
  have B5 := B4.trans (b5.mono B4.size)
  have B6 := B5.trans (b6.mono B5.size)
  obtain ⟨ob, b0, hA6, ho1, ho2, _, _⟩ := own_head own6' hn0
  subst hA6
  have L5 := HL0.out
  have L6 := L5.below b6
  have h6 : BothJ w6 base (fun i => i = ob) j ⟨xA, xc, xr, xl, xh, xs, xe⟩ ⟨f, s / 2, 0, 1, [], 0⟩ 0 := L5.both.more b6 (fun k hk => .inr ⟨by omega, by omega⟩)
  obtain ⟨a1, a2, a3, a4, a5, a6⟩ := L5.both.asks
  simp only at a3 a4 a5 a6
  have hfl0 : ∀ i, j.foot i → base ≤ i ∧ i < w5.heap.size := fun i hi => L5.both.L.ok.foot_lt hi
  have rec0 : RecOK w (fun _ => False) ⟨5, A, cap, bl⟩ := ⟨fun hne => by
    obtain ⟨g, off, e, h1, h2⟩ := hR hne
    exact ⟨g, off, e, h1, id, h2⟩, by show bl.length ≤ cap; omega, hcap⟩
  have hr6 : RecOK w6 (fun k => j.foot k ∨ k = ob) ⟨5, A, cap, bl⟩ := rec0.apart (Nat.le_refl _) B6 (fun i hi => by
    rcases hi with hi | hi
    · have := (hfl0 i hi).1; omega
    · omega)
  have XA : Calls Tryd.prog 12 #[XL.val ⟨xA, xc, xr, xl, xh, xs, xe⟩, .agg #[.int .u8 5, .slice A bl.length cap]] w6 _ := xadd_calls ⟨xA, xc, xr, xl, xh, xs, xe⟩ ⟨5, A, cap, bl⟩ j.y.size ⟨f, s / 2, 0, 1, [], 0⟩ 0 w6 (fun k => j.foot k ∨ k = ob) h6.ok (fun k hk => by
    rcases hk with hk | hk
    · have := (hfl0 k hk).2; have := b6.size; omega
    · omega) hr6 h6.says a1 a2 (by simp only; omega) a4 a5 (by simp only; omega)
  obtain ⟨E, hE⟩ : ∃ E, addE j.y.size ⟨f, s / 2, 0, 1, [], 0⟩ (RecR.abs ⟨5, A, cap, bl⟩) = E := ⟨_, rfl⟩
  obtain ⟨P', hP'⟩ : ∃ P', PJ.addS ⟨f, s / 2, 0, 1, [], 0⟩ j.y.size (RecR.abs ⟨5, A, cap, bl⟩) = P' := ⟨_, rfl⟩
  have HP1 : Hid ((P'.rs = [] ∨ P'.rs = [⟨5, bl⟩]) ∧ P'.e = 1 ∧ P'.from_ = f ∧ P'.half = s / 2) := by
    obtain ⟨t1, t2, t3⟩ := addS_same j.y.size ⟨f, s / 2, 0, 1, [], 0⟩ (RecR.abs ⟨5, A, cap, bl⟩)
    rw [← hP']
    exact ⟨addS_none _ _ _ rfl, t1, t2, t3⟩
  rw [XL.val_eq, hE, hP', hn] at XA
  have HE := Lib.hid hE
  have HP' := Lib.hid hP'
  have q0 : w6.cell? ⟨w4.heap.size, 0, none⟩ = some (.slice xA xr.length xc) := L6.blk.at_ rfl
  have q1 : w6.cell? ⟨w4.heap.size, 1, none⟩ = some (.int .i64 (xl : Int)) := L6.blk.at_ rfl
  have q2 : w6.cell? ⟨w4.heap.size, 2, none⟩ = some (.int .i64 xh) := L6.blk.at_ rfl
  have q3 : w6.cell? ⟨w4.heap.size, 3, none⟩ = some (.int .i64 xs) := L6.blk.at_ rfl
  have q4 : w6.cell? ⟨w4.heap.size, 4, none⟩ = some (.int .i64 xe) := L6.blk.at_ rfl
  have H6 := Lib.hid h6
  have Hown := Lib.hid own6'
  have HL := Lib.hid L5
  clear L5 L6 h6 own6' hE hP' hr6 rec0 HBJ nb5 HL0
  go_wp2_with fail
  (with_reducible refine XA.mono ?_)
  clear XA q0 q1 q2 q3 q4
  rintro _ w7 ⟨⟨yA, yc, yr, yl, yh, ys, ye⟩, rfl, hx7, ok7, b7⟩
  rw [XL.val_eq]
  have nb8 := Blk.new w7 31 #[.slice yA yr.length yc, .int .i64 (yl : Int), .int .i64 yh, .int .i64 ys, .int .i64 ye]
  have b8 : Below w7.heap.size w7 (w7.alloc (.cells #[.slice yA yr.length yc, .int .i64 (yl : Int), .int .i64 yh, .int .i64 ys, .int .i64 ye] 31)) := (Below.refl _ _).alloc (Nat.le_refl _) _
  have HX7 := Lib.hid hx7
  have hs7 := b7.size
  have hs6 := b6.size
  clear hx7
  go_wp2_with fail
  have hl8 := nb8.lt
  generalize w7.alloc (.cells #[.slice yA yr.length yc, .int .i64 (yl : Int), .int .i64 yh, .int .i64 ys, .int .i64 ye] 31) = w8 at *
  have b78 := b7.trans (b8.mono b7.size)
  have b68 := b6.trans (b78.mono b6.size)
  have B8 := B6.trans (b78.mono B6.size)
  have h8 : BothJ w8 base (fun i => i = ob ∨ i = w7.heap.size) j ⟨xA, xc, xr, xl, xh, xs, xe⟩ ⟨f, s / 2, 0, 1, [], 0⟩ 0 := HL.out.both.more b68 (fun k hk => .inr ⟨by omega, by omega⟩)
  have ok8 : XOK w8 (fun k => j.foot k ∨ (k = ob ∨ k = w7.heap.size)) ⟨yA, yc, yr, yl, yh, ys, ye⟩ := (ok7.mono (G := fun k => j.foot k ∨ (k = ob ∨ k = w7.heap.size)) fun k hk hf => by
    rcases hf with hf | hf | hf
    · exact .inl hf
    · exact .inr hf
    · omega).below b8
  have own8 := own_below Hown.out b78 (fun i hi => (Hown.out.lt i hi).2)
  have rr8 : RecOK w8 j.foot ⟨5, some ⟨ob, 0, none⟩, c6, bl⟩ := ⟨by
    show RVF w8 j.foot (some ⟨ob, 0, none⟩) (cB bl)
    exact own_rvfN own8 (fun k hk => .inl (by have := (hfl0 k hk).2; omega)), by show bl.length ≤ c6; omega, by show c6 ≤ _; unfold maxLen at *; omega⟩
  have JC : Calls Tryd.prog 13 #[.pointer (some ⟨j.G, 0, none⟩), .agg #[.int .u8 5, .slice (some ⟨ob, 0, none⟩) bl.length c6]] w8 _ := jadd_calls j ⟨f, s / 2, 0, 1, [], 0⟩ ⟨5, some ⟨ob, 0, none⟩, c6, bl⟩ w8 base h8.L (hT.below B8) (by omega) (by omega) rr8
  rw [show RecR.abs ⟨5, some ⟨ob, 0, none⟩, c6, bl⟩ = RecR.abs ⟨5, A, cap, bl⟩ from rfl, HE.out, HP'.out, hn] at JC
  have H8 := Lib.hid h8
  have Hown8 := Lib.hid own8
  clear own8 h8 ok7 rr8 hR
  (with_reducible refine JC.mono ?_)
  clear JC
  rintro _ w9 ⟨rfl, n9⟩
  obtain ⟨j9, BJ9, hG9, hD9, _, K9, _⟩ := H8.out.step (x' := ⟨yA, yc, yr, yl, yh, ys, ye⟩) HX7.out ok8 n9
  obtain ⟨p1, p2, p3, p4⟩ := HP1.out
  have own9 := own_frame Hown8.out (fun k hk => K9.block k (Hown8.out.lt k hk).2 (fun hf => by have := (Hown8.out.lt k hk).1; have := (hfl0 k hf).2; omega))
  have Lb9 : Blk w9 w7.heap.size 31 #[.slice yA yr.length yc, .int .i64 (yl : Int), .int .i64 yh, .int .i64 ys, .int .i64 ye] := (K9.block w7.heap.size hl8 (H8.out.no _ (.inr rfl))).trans nb8
  have B9 : Below w.heap.size w w9 := B8.trans (K9.below (fun i _ hi => by have := (hfl0 i hi).1; omega) B8.size)
  have hs9 := K9.size
  obtain ⟨g9, b1, hg9, _, ho9, z0, z1⟩ := own_head own9 hn0
  obtain rfl : ob = g9 := by injection hg9 with hg9; injection hg9
  have HB9 := Lib.hid BJ9
  clear n9 BJ9 K9 own9 H6 H8 Hown Hown8 HX7 ok8 b6 b7 b8 b78 b68 nb8 HL HE HP' hg9
  have HN9 : Hid (∀ v, Below w.heap.size w (w9.setCell ⟨ob, 0, none⟩ v) ∧ BothJ (w9.setCell ⟨ob, 0, none⟩ v) base (fun i => i = ob ∨ i = w7.heap.size) j9 ⟨yA, yc, yr, yl, yh, ys, ye⟩ P' 0 ∧ Blk (w9.setCell ⟨ob, 0, none⟩ v) w7.heap.size 31 #[.slice yA yr.length yc, .int .i64 (yl : Int), .int .i64 yh, .int .i64 ys, .int .i64 ye]) :=
    fun v => ⟨B9.setCell (by show w.heap.size ≤ ob; omega) v, HB9.out.store ((Kept.refl _ _).setCell (p := ⟨ob, 0, none⟩) (.inl (.inl rfl)) v), Lb9.far (by show w7.heap.size ≠ ob; omega) v⟩
  go_wp2_with fail
  obtain ⟨w10, hw10⟩ : ∃ w10, w10 = w9.setCell ⟨ob, 0, none⟩ (.int .u8 (((b1.toNat : Int) + 1) % 256)) := ⟨_, rfl⟩
  rw [← hw10]
  obtain ⟨B10, BJ10, Lb10⟩ := HN9.out (.int .u8 (((b1.toNat : Int) + 1) % 256))
  rw [← hw10] at B10 BJ10 Lb10
  clear hw10 HN9 HB9 Lb9 B9 z0 z1
  obtain ⟨m, hm⟩ : ∃ m, P'.rs.length = m := ⟨_, rfl⟩
  have hm1 : m ≤ 1 := by rcases p1 with e | e <;> rw [← hm, e] <;> simp
  have AC := jall_one j9 P' m hm hm1 w10 base BJ10.L
  rw [hG9] at AC
  (with_reducible refine AC.mono ?_)
  clear AC
  rintro _ w11 ⟨A11, c11, rs, rfl, hrl, hra, hrow, b11, hob⟩
  have HRA := Lib.hid hra
  have HP := Lib.hid p1
  clear hra p1
  go_wp2_with fail
  go_loopw [62] (fun i wr => ∃ k : Nat, k ≤ m ∧ i = .int .i64 (k : Int) ∧ (k = 0 → wr = w11) ∧ Below w10.heap.size w10 wr) (fun i _ => m - (intOf i).toNat)
  case atStart => exact ⟨0, by omega, rfl, fun _ => rfl, b11⟩
  case round =>
    obtain ⟨k, hkm, rfl, hw0, bel⟩ := hrel
    by_cases hlt : k < m
    · obtain rfl : k = 0 := by omega
      obtain rfl := hw0 rfl
      obtain rfl : m = 1 := by omega
      obtain ⟨z, rfl⟩ : ∃ z, rs = [z] := by
        match rs, hrl with
        | [z], _ => exact ⟨z, rfl⟩
      have hzb : z.body = bl := by
        have e := HRA.out
        rcases HP.out with h | h
        · rw [h] at hm; cases hm
        · rw [h] at e
          have : z.abs = ⟨5, bl⟩ := by simpa using e
          exact congrArg Rec.body this
      obtain ⟨gr, cr, hv, _, hgr, x0, x1⟩ := rec_cells hrow (k := 0) (x := z) rfl
      have hz := hob z (by simp)
      obtain ⟨zk, zA, zc, zb⟩ := z
      simp only at hzb x0 x1 hz
      subst hzb
      rw [hn] at hz x1
      obtain ⟨gz, bz, hzA, hz1, hz2, hz3, hz4⟩ := own_head hz hn0
      subst hzA
      injection hv with hv le ce
      clear le ce
      subst hv
      have HB := Lib.hid (fun v o => (bel.setCell (p := ⟨gz, 0, none⟩) hz1 v).alloc (by simpa using bel.size) o)
      simp only [Nat.zero_mul, Nat.zero_add] at x0 x1
      clear hz hob hrow bel hw0 hrl HRA HP b11 hn hm hkm p2 p3 p4 hm1 Lb10 BJ10 B10 hT hG9 hD9 hz1 hlt
      have d0 : decide ((0 : Int) < 1) = true := rfl
      have dn2 : decide ((0 : Int) < (n : Int)) = true := decide_eq_true (by omega)
      go_wp2
      go_roundw
      case rel => exact ⟨1, by omega, by go_num, fun h => by omega, HB.out _ _⟩
      case measure => simp [intOf]
    · obtain rfl : k = m := by omega
      have dec : decide ((k : Int) < (k : Int)) = false := decide_eq_false (by omega)
      have dec' : decide (k < k) = false := decide_eq_false (by omega)
      have Br := B10.trans (bel.mono B10.size)
      have Lr := Lb10.below bel Lb10.lt
      have Jr := BJ10.below bel
      have q0 : wr.cell? ⟨w7.heap.size, 0, none⟩ = some (.slice yA yr.length yc) := Lr.at_ rfl
      have q1 : wr.cell? ⟨w7.heap.size, 1, none⟩ = some (.int .i64 (yl : Int)) := Lr.at_ rfl
      have q2 : wr.cell? ⟨w7.heap.size, 2, none⟩ = some (.int .i64 yh) := Lr.at_ rfl
      have q3 : wr.cell? ⟨w7.heap.size, 3, none⟩ = some (.int .i64 ys) := Lr.at_ rfl
      have q4 : wr.cell? ⟨w7.heap.size, 4, none⟩ = some (.int .i64 ye) := Lr.at_ rfl
      have SM : Calls Tryd.prog 15 #[.pointer (some ⟨j9.G, 0, none⟩), .agg #[.slice yA yr.length yc, .int .i64 (yl : Int), .int .i64 yh, .int .i64 ys, .int .i64 ye]] wr _ := same_calls j9 P' ⟨yA, yc, yr, yl, yh, ys, ye⟩ P'.rs.length rfl wr base Jr.L (Jr.ok.mono fun _ _ hf => hf.elim) Jr.says.rs
      rw [hG9] at SM
      have HBr := Lib.hid Br
      clear Jr Lr BJ10 Lb10 B10 bel hob hrow b11 hw0 Br
      go_wp2_with fail
      (with_reducible refine SM.mono ?_)
      clear SM
      rintro _ w13 ⟨rfl, b13⟩
      have HF := Lib.hid (HBr.out.trans (b13.mono HBr.out.size))
      clear b13
      go_wp2_with fail
      go_ret
      exact ⟨rfl, HF.out⟩
end Go.Proofs.YtpojlchikaffhaaDoor
