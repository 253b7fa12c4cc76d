/-
  Walks: the statements' fresh and awake.
-/
import Derived.Test.YtdcjljlppeighaaDoorPurgeRefParse
import Derived.Test.YtdcjljlppeighaaDoorPurgeLast
namespace Go.Proofs.YtdcjljlppeighaaDoor
open Go.RowKit PurgeP

def noX : Nat → Prop := fun _ => False
theorem fresh_calls (w : World) : Calls Tryd.prog 11 #[] w fun e w' => ∃ y, e = .returned (.pointer (some ⟨y.D, 0, none⟩)) ∧ LogOK w' w.heap.size noX y ∧ y.abs = PLog.new ∧ Below w.heap.size w w' := by
  have LC := load_calls [] 0 none 0 w ⟨RV.nil, fun x hx => by simp at hx⟩ (by simp)
  have hE : loadE 0 ([].map LnR.abs) = 0 := rfl
  go_enter Tryd.func11, Tryd.ntmps11
  go_wp2_with fail
  refine LC.mono ?_
  rintro e w' ⟨bel, (⟨h0, _⟩ | ⟨_, y, rfl, hy, ha⟩)⟩
  · exact absurd hE h0
  · go_wp2
    go_ret
    exact ⟨y, rfl, hy, ha, bel⟩
def kA : List Txt := [[97]]
def kB : List Txt := [[98]]
def kX : List Txt := [[120]]
def kBC : List Txt := [[98], [99]]
def kAA : List Txt := [[97], [97]]
def aw1 : PLog := PLog.new.addS kA true
def aw2 : PLog := aw1.addS kB false
def aw3 : PLog := aw2.addS kBC true
def aw4 : PLog := aw3.addS kAA true
def aw5 : PLog := aw4.forS 2
theorem aw_1 : PLog.new.addN kA true = 1 ∧ PLog.new.addE kA true = 0 := by decide
theorem aw_3 : aw2.addN kBC true = 3 ∧ aw2.addE kBC true = 0 := by decide
theorem aw_4 : aw3.addN kAA true = 0 ∧ aw3.addE kAA true = 1 := by decide
theorem aw_l : aw4.last kB 0 2 false = 2 ∧ aw4.last kB 0 2 true = 0 ∧ aw4.any 0 1 = true ∧ aw4.any 1 2 = false ∧ aw4.forE 2 = 0 := by decide
theorem aw_m : aw5.last kX 1 9 true = 2 ∧ aw5.last kX 2 9 true = 0 ∧ aw5.floor = 2 ∧ aw5.now = 3 ∧ aw5.ls.length = 1 := by decide
def txt3 : Txt := [51, 32, 104, 97, 114, 100, 32, 98, 32, 99]
theorem aw_r : rightB ⟨3, kBC, true⟩ = true := by decide
theorem aw_t : textL ⟨3, kBC, true⟩ = txt3 := by
  unfold textL Lib.itoa
  rw [if_neg (by decide), show (3 : Int).toNat = 3 from rfl, Lib.decDigits_one (by decide)]
  rfl
theorem aw_T : textT ⟨3, kBC, true⟩ = txt3 ∧ textE ⟨3, kBC, true⟩ = 0 := by
  unfold textT textE
  rw [aw_r, if_pos rfl, if_pos rfl, aw_t]
  exact ⟨rfl, rfl⟩
theorem aw_p : parL txt3 = ⟨3, kBC, true⟩ ∧ parE txt3 = 0 := by
  have := (parP_iff txt3 ⟨3, kBC, true⟩).2 ⟨aw_r, aw_t⟩
  unfold parL parE
  rw [this]
  exact ⟨rfl, rfl⟩
theorem rs_new (w : World) (ks : List Txt) : RS (w.alloc (.cells (cS ks).toArray 9)) (some ⟨w.heap.size, 0, none⟩) ks := RV.new w (cS ks) 9 (0, 0)
set_option maxHeartbeats 6400000 in
set_option maxRecDepth 100000 in
theorem awake_calls (w : World) (hS : Std w) : Calls Tryd.prog 12 #[] w fun e w' => e = .returned (.bool true) ∧ Below w.heap.size w w' := by
  go_enter Tryd.func12, Tryd.ntmps12
  go_wp2_with fail
  refine (fresh_calls w).mono ?_
  rintro e w1 ⟨y1, rfl, hy1, ha1, bel1⟩
  obtain ⟨wb, hwb⟩ : ∃ wb, w1.alloc (.cells #[.string ⟨#[97]⟩] 9) = wb := ⟨_, rfl⟩
  have bb : Below w1.heap.size w1 wb := by rw [← hwb]; exact (Below.refl _ _).alloc (Nat.le_refl _) _
  have rr : RS wb (some ⟨w1.heap.size, 0, none⟩) kA := by rw [← hwb]; exact rs_new w1 kA
  have HWB := Lib.hid hwb
  clear hwb
  have b1 := bel1.trans (bb.mono bel1.size)
  have A1 := add_calls y1 kA 1 rfl true (some ⟨w1.heap.size, 0, none⟩) 1 wb w.heap.size noX (fun k hk => hk.elim) b1.size (hy1.below bb) rr (Nat.le_refl _) (by omega)
  rw [ha1, aw_1.1, aw_1.2] at A1
  go_wp2_with fail
  rw [HWB.out]
  refine A1.mono ?_
  clear A1 HWB rr
  rintro e w2 ⟨rfl, y2, hy2, ha2, hd2, hk2, -⟩
  rw [← hd2]
  have bel2 : Below w.heap.size w w2 := b1.trans (hk2.below (fun j _ hj => ((hy1.below bb).foot_lt hj).1) b1.size)
  replace ha2 : y2.abs = aw1 := ha2
  clear hk2 hd2 hy1 ha1 b1 bb bel1
  obtain ⟨wb, hwb⟩ : ∃ wb, w2.alloc (.cells #[.string ⟨#[98]⟩] 9) = wb := ⟨_, rfl⟩
  have bb : Below w2.heap.size w2 wb := by rw [← hwb]; exact (Below.refl _ _).alloc (Nat.le_refl _) _
  have rr : RS wb (some ⟨w2.heap.size, 0, none⟩) kB := by rw [← hwb]; exact rs_new w2 kB
  have HWB := Lib.hid hwb
  clear hwb
  have b2 := bel2.trans (bb.mono bel2.size)
  have A2 := add_calls y2 kB 1 rfl false (some ⟨w2.heap.size, 0, none⟩) 1 wb w.heap.size noX (fun k hk => hk.elim) b2.size (hy2.below bb) rr (Nat.le_refl _) (by omega)
  rw [ha2] at A2
  go_wp2_with fail
  rw [HWB.out]
  refine A2.mono ?_
  clear A2 HWB rr
  rintro e w3 ⟨rfl, y3, hy3, ha3, hd3, hk3, -⟩
  rw [← hd3]
  have bel3 : Below w.heap.size w w3 := b2.trans (hk3.below (fun j _ hj => ((hy2.below bb).foot_lt hj).1) b2.size)
  replace ha3 : y3.abs = aw2 := ha3
  clear hk3 hd3 hy2 ha2 b2 bb bel2
  obtain ⟨wb, hwb⟩ : ∃ wb, w3.alloc (.cells #[.string ⟨#[98]⟩, .string ⟨#[99]⟩] 9) = wb := ⟨_, rfl⟩
  have bb : Below w3.heap.size w3 wb := by rw [← hwb]; exact (Below.refl _ _).alloc (Nat.le_refl _) _
  have rr : RS wb (some ⟨w3.heap.size, 0, none⟩) kBC := by rw [← hwb]; exact rs_new w3 kBC
  have HWB := Lib.hid hwb
  clear hwb
  have b3 := bel3.trans (bb.mono bel3.size)
  have A3 := add_calls y3 kBC 2 rfl true (some ⟨w3.heap.size, 0, none⟩) 2 wb w.heap.size noX (fun k hk => hk.elim) b3.size (hy3.below bb) rr (Nat.le_refl _) (by omega)
  rw [ha3, aw_3.1, aw_3.2] at A3
  go_wp2_with fail
  rw [HWB.out]
  refine A3.mono ?_
  clear A3 HWB rr
  rintro e w4 ⟨rfl, y4, hy4, ha4, hd4, hk4, -⟩
  rw [← hd4]
  have bel4 : Below w.heap.size w w4 := b3.trans (hk4.below (fun j _ hj => ((hy3.below bb).foot_lt hj).1) b3.size)
  replace ha4 : y4.abs = aw3 := ha4
  clear hk4 hd4 hy3 ha3 b3 bb bel3
  obtain ⟨wb, hwb⟩ : ∃ wb, w4.alloc (.cells #[.string ⟨#[97]⟩, .string ⟨#[97]⟩] 9) = wb := ⟨_, rfl⟩
  have bb : Below w4.heap.size w4 wb := by rw [← hwb]; exact (Below.refl _ _).alloc (Nat.le_refl _) _
  have rr : RS wb (some ⟨w4.heap.size, 0, none⟩) kAA := by rw [← hwb]; exact rs_new w4 kAA
  have HWB := Lib.hid hwb
  clear hwb
  have b4 := bel4.trans (bb.mono bel4.size)
  have A4 := add_calls y4 kAA 2 rfl true (some ⟨w4.heap.size, 0, none⟩) 2 wb w.heap.size noX (fun k hk => hk.elim) b4.size (hy4.below bb) rr (Nat.le_refl _) (by omega)
  rw [ha4, aw_4.1, aw_4.2] at A4
  go_wp2_with fail
  rw [HWB.out]
  refine A4.mono ?_
  clear A4 HWB rr
  rintro e w5 ⟨rfl, y5, hy5, ha5, hd5, hk5, -⟩
  rw [← hd5]
  have bel5 : Below w.heap.size w w5 := b4.trans (hk5.below (fun j _ hj => ((hy4.below bb).foot_lt hj).1) b4.size)
  replace ha5 : y5.abs = aw4 := ha5
  clear hk5 hd5 hy4 ha4 b4 bb bel4
  obtain ⟨wb, hwb⟩ : ∃ wb, w5.alloc (.cells #[.string ⟨#[98]⟩] 9) = wb := ⟨_, rfl⟩
  have bb : Below w5.heap.size w5 wb := by rw [← hwb]; exact (Below.refl _ _).alloc (Nat.le_refl _) _
  have rr : RS wb (some ⟨w5.heap.size, 0, none⟩) kB := by rw [← hwb]; exact rs_new w5 kB
  have HWB := Lib.hid hwb
  clear hwb
  have LL := last_calls y5 kB 1 rfl 0 2 false (some ⟨w5.heap.size, 0, none⟩) 1 wb w.heap.size noX (hy5.below bb) rr (by omega)
  rw [ha5, aw_l.1] at LL
  go_wp2_with fail
  rw [HWB.out]
  refine LL.mono ?_
  clear LL HWB rr
  rintro e w6 ⟨rfl, bx⟩
  have by' := bb.trans (bx.mono bb.size)
  have hy6 := hy5.below by'
  have bel6 := bel5.trans (by'.mono bel5.size)
  have ha6 := ha5
  clear hy5 bb bx by' bel5 ha5
  obtain ⟨wb, hwb⟩ : ∃ wb, w6.alloc (.cells #[.string ⟨#[98]⟩] 9) = wb := ⟨_, rfl⟩
  have bb : Below w6.heap.size w6 wb := by rw [← hwb]; exact (Below.refl _ _).alloc (Nat.le_refl _) _
  have rr : RS wb (some ⟨w6.heap.size, 0, none⟩) kB := by rw [← hwb]; exact rs_new w6 kB
  have HWB := Lib.hid hwb
  clear hwb
  have LL := last_calls y5 kB 1 rfl 0 2 true (some ⟨w6.heap.size, 0, none⟩) 1 wb w.heap.size noX (hy6.below bb) rr (by omega)
  rw [ha6, aw_l.2.1] at LL
  go_wp2_with fail
  rw [HWB.out]
  refine LL.mono ?_
  clear LL HWB rr
  rintro e w7 ⟨rfl, bx⟩
  have by' := bb.trans (bx.mono bb.size)
  have hy7 := hy6.below by'
  have bel7 := bel6.trans (by'.mono bel6.size)
  have ha7 := ha6
  clear hy6 bb bx by' bel6 ha6
  have LL := any_calls y5 0 1 w7 w.heap.size noX hy7
  rw [ha7, aw_l.2.2.1] at LL
  go_wp2_with fail
  refine LL.mono ?_
  clear LL
  rintro e w8 ⟨rfl, by'⟩
  have hy8 := hy7.below by'
  have bel8 := bel7.trans (by'.mono bel7.size)
  have ha8 := ha7
  clear hy7 by' bel7 ha7
  have LL := any_calls y5 1 2 w8 w.heap.size noX hy8
  rw [ha8, aw_l.2.2.2.1] at LL
  go_wp2_with fail
  refine LL.mono ?_
  clear LL
  rintro e w9 ⟨rfl, by'⟩
  have hy9 := hy8.below by'
  have bel9 := bel8.trans (by'.mono bel8.size)
  have ha9 := ha8
  clear hy8 by' bel8 ha8
  have LL := forget_calls y5 2 w9 w.heap.size noX (fun k hk => hk.elim) bel9.size hy9
  rw [ha9, aw_l.2.2.2.2] at LL
  go_wp2_with fail
  refine LL.mono ?_
  clear LL
  rintro e w10 ⟨rfl, y10, hy10, ha10, hd10, hk10, -⟩
  rw [← hd10]
  have bel10 : Below w.heap.size w w10 := bel9.trans (hk10.below (fun j _ hj => (hy9.foot_lt hj).1) bel9.size)
  replace ha10 : y10.abs = aw5 := ha10
  clear hk10 hd10 hy9 ha9 bel9
  obtain ⟨wb, hwb⟩ : ∃ wb, w10.alloc (.cells #[.string ⟨#[120]⟩] 9) = wb := ⟨_, rfl⟩
  have bb : Below w10.heap.size w10 wb := by rw [← hwb]; exact (Below.refl _ _).alloc (Nat.le_refl _) _
  have rr : RS wb (some ⟨w10.heap.size, 0, none⟩) kX := by rw [← hwb]; exact rs_new w10 kX
  have HWB := Lib.hid hwb
  clear hwb
  have LL := last_calls y10 kX 1 rfl 1 9 true (some ⟨w10.heap.size, 0, none⟩) 1 wb w.heap.size noX (hy10.below bb) rr (by omega)
  rw [ha10, aw_m.1] at LL
  go_wp2_with fail
  rw [HWB.out]
  refine LL.mono ?_
  clear LL HWB rr
  rintro e w11 ⟨rfl, bx⟩
  have by' := bb.trans (bx.mono bb.size)
  have hy11 := hy10.below by'
  have bel11 := bel10.trans (by'.mono bel10.size)
  have ha11 := ha10
  clear hy10 bb bx by' bel10 ha10
  obtain ⟨wb, hwb⟩ : ∃ wb, w11.alloc (.cells #[.string ⟨#[120]⟩] 9) = wb := ⟨_, rfl⟩
  have bb : Below w11.heap.size w11 wb := by rw [← hwb]; exact (Below.refl _ _).alloc (Nat.le_refl _) _
  have rr : RS wb (some ⟨w11.heap.size, 0, none⟩) kX := by rw [← hwb]; exact rs_new w11 kX
  have HWB := Lib.hid hwb
  clear hwb
  have LL := last_calls y10 kX 1 rfl 2 9 true (some ⟨w11.heap.size, 0, none⟩) 1 wb w.heap.size noX (hy11.below bb) rr (by omega)
  rw [ha11, aw_m.2.1] at LL
  go_wp2_with fail
  rw [HWB.out]
  refine LL.mono ?_
  clear LL HWB rr
  rintro e w12 ⟨rfl, bx⟩
  have by' := bb.trans (bx.mono bb.size)
  have hy12 := hy11.below by'
  have bel12 := bel11.trans (by'.mono bel11.size)
  have ha12 := ha11
  clear hy11 bb bx by' bel11 ha11
  have S12 := hS.below bel12
  obtain ⟨wb, hwb⟩ : ∃ wb, w12.alloc (.cells #[.string ⟨#[98]⟩, .string ⟨#[99]⟩] 9) = wb := ⟨_, rfl⟩
  have bb : Below w12.heap.size w12 wb := by rw [← hwb]; exact (Below.refl _ _).alloc (Nat.le_refl _) _
  have rr : RS wb (some ⟨w12.heap.size, 0, none⟩) kBC := by rw [← hwb]; exact rs_new w12 kBC
  have HWB := Lib.hid hwb
  clear hwb
  have TC := text_calls 3 kBC true (some ⟨w12.heap.size, 0, none⟩) 2 wb (S12.below bb) rr (Nat.le_refl _) (by omega)
  rw [aw_T.1, aw_T.2] at TC
  go_wp2_with fail
  rw [HWB.out]
  refine TC.mono ?_
  clear TC HWB rr
  rintro e w13 ⟨rfl, bx⟩
  have by' := bb.trans (bx.mono bb.size)
  have hy13 := hy12.below by'
  have bel13 := bel12.trans (by'.mono bel12.size)
  have ha13 := ha12
  have S13 := S12.below by'
  clear hy12 bb bx by' bel12 ha12 S12
  have PC := parse_calls txt3 (by decide) w13 S13
  unfold RetParse at PC
  rw [aw_p.1, aw_p.2] at PC
  go_wp2_with fail
  refine PC.mono ?_
  clear PC
  rintro e w14 ⟨A14, c14, rfl, -, -, -, b14⟩
  have hy14 := hy13.below b14
  have bel14 := bel13.trans (b14.mono bel13.size)
  have ha14 := ha13
  clear hy13 b14 bel13 ha13 S13
  rw [show kBC.length = 2 from rfl]
  obtain ⟨wb, hwb⟩ : ∃ wb, w14.alloc (.cells #[.int .i64 3, .slice A14 2 c14, .bool true] 54) = wb := ⟨_, rfl⟩
  have bb : Below w14.heap.size w14 wb := by rw [← hwb]; exact (Below.refl _ _).alloc (Nat.le_refl _) _
  have pb : Blk wb w14.heap.size 54 #[.int .i64 3, .slice A14 2 c14, .bool true] := by rw [← hwb]; exact Blk.new w14 _ _
  have HWB := Lib.hid hwb
  clear hwb
  have hyb := hy14.below bb
  have belb := bel14.trans (bb.mono bel14.size)
  have es : ((bstr txt3).toList == [51, 32, 104, 97, 114, 100, 32, 98, 32, 99]) = true := by rw [bstr_list]; rfl
  have FC := floor_calls y10 wb w.heap.size noX hyb
  have hfl : y10.floor = 2 := by have := congrArg PLog.floor ha14; rw [aw_m.2.2.1] at this; exact this
  rw [hfl] at FC
  have NC := now_calls y10 wb w.heap.size noX hyb
  rw [ha14, aw_m.2.2.2.1] at NC
  have hll : y10.ls.length = 1 := by have := congrArg (fun l => l.ls.length) ha14; rw [show aw5.ls.length = 1 from aw_m.2.2.2.2] at this; rw [← LogOK.abs_len (y := y10)]; exact this
  clear hfl hy14 ha14 bb bel14
  go_wp2_with fail
  rw [HWB.out]
  refine FC.mono ?_
  clear FC HWB
  rintro e w15 ⟨rfl, rfl⟩
  go_wp2_with fail
  refine NC.mono ?_
  clear NC
  rintro e w16 ⟨rfl, q, rfl⟩
  have bq := drewN_below wb q
  have hyq := hyb.below bq
  have belq := belb.trans (bq.mono belb.size)
  have pq := pb.below bq pb.lt
  generalize wb.drewN q = w16 at *
  clear hyb belb pb bq
  go_wp2_with fail
  refine (lines_calls y10 w16 w.heap.size noX hyq).mono ?_
  rintro e w17 ⟨v, rfl, rs, hrl, -, hrow, b17⟩
  obtain ⟨AR, cR, hvf, _, _⟩ := own_form hrow.own
  rw [hrl, hll] at hvf
  subst hvf
  have p17 := pq.below b17 pq.lt
  have bel17 := belq.trans (b17.mono belq.size)
  have q0 : w17.cell? ⟨w14.heap.size, 0, none⟩ = some (.int .i64 3) := p17.at_ rfl
  have q1 : w17.cell? ⟨w14.heap.size, 1, none⟩ = some (.slice A14 2 c14) := p17.at_ rfl
  have q2 : w17.cell? ⟨w14.heap.size, 2, none⟩ = some (.bool true) := p17.at_ rfl
  clear hrow hrl hll pq p17 belq hyq
  go_wp2
  go_ret
  exact ⟨rfl, bel17⟩
end Go.Proofs.YtdcjljlppeighaaDoor
