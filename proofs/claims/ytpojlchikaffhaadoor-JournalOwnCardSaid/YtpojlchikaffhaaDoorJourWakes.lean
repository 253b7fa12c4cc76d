/-
  The walk of the statements' wakes.
-/
import Derived.Test.YtpojlchikaffhaaDoorJourCut
import Derived.Test.YtpojlchikaffhaaDoorJourHelpB
import Derived.Test.YtpojlchikaffhaaDoorStr
import Derived.Lib.SlBytesConst
namespace Go.Proofs.YtpojlchikaffhaaDoor
open Go.RowKit DiskP SumP PageP JourP

def wP0 : PJ := ⟨0, 8, 0, 1, [], 0⟩
def wR1 : Rec := ⟨1, [97]⟩
def wR2 : Rec := ⟨2, [98]⟩
/-- What a call makes of a log, in fewer words. -/
theorem NextJ.out {w w' : World} {base : Nat} {j : JL} {p' : PJ} (n : NextJ w base j p' w') (h : JOK w base j) (hb : base ≤ w.heap.size) : ∃ j', JLog w' base j' p' ∧ j'.G = j.G ∧ j'.y.D = j.y.D ∧ j'.y.size = j.y.size ∧ j'.y.lp.length = j.y.lp.length ∧ Below base w w' := by
  have b := n.lower h hb
  obtain ⟨j', h1, h2, h3, ⟨h4, h5⟩, _⟩ := n
  exact ⟨j', h1, h2, h3, h4, h5, b⟩
theorem wadd (j : JL) (p : PJ) (k c : UInt8) (w : World) (base : Nat) (h : JLog w base j p) (hT : Tab w) (hbase : base ≤ w.heap.size) (hg : 0 < base) (hE : addE j.y.size p ⟨k, [c]⟩ = 0) :
    Calls Tryd.prog 13 #[.pointer (some ⟨j.G, 0, none⟩), .agg #[.int .u8 (k.toNat : Int), .slice (some ⟨w.heap.size, 0, none⟩) 1 1]] (w.alloc (.cells #[.int .u8 (c.toNat : Int)] 5 (1, 2)))
      fun e w' => e = .returned (.int .i64 0) ∧ ∃ j', JLog w' base j' (p.add ⟨k, [c]⟩) ∧ j'.G = j.G ∧ j'.y.D = j.y.D ∧ j'.y.size = j.y.size ∧ j'.y.lp.length = j.y.lp.length ∧ Below base w w' := by
  have b : Below w.heap.size w (w.alloc (.cells #[.int .u8 (c.toNat : Int)] 5 (1, 2))) := (Below.refl _ _).alloc (Nat.le_refl _) _
  have rv : RV (w.alloc (.cells #[.int .u8 (c.toNat : Int)] 5 (1, 2))) (some ⟨w.heap.size, 0, none⟩) (cB [c]) := RV.new w (cB [c]) 5 (1, 2)
  have ok : RecOK (w.alloc (.cells #[.int .u8 (c.toNat : Int)] 5 (1, 2))) j.foot ⟨k, some ⟨w.heap.size, 0, none⟩, 1, [c]⟩ := by
    refine ⟨fun hne => ?_, Nat.le_refl _, by show 1 ≤ _; decide⟩
    obtain ⟨g, off, e, h2, h3⟩ := rv hne
    refine ⟨g, off, e, h2, fun hf => ?_, h3⟩
    injection e with e
    injection e with e _
    subst e
    exact absurd (h.ok.foot_lt hf).2 (by omega)
  have hb' := Nat.le_trans hbase b.size
  refine (jadd_calls j p ⟨k, some ⟨w.heap.size, 0, none⟩, 1, [c]⟩ _ base (h.below b) (hT.below b) hb' hg ok).mono ?_
  rintro e w' ⟨rfl, n⟩
  have e1 : addE j.y.size p (RecR.abs ⟨k, some ⟨w.heap.size, 0, none⟩, 1, [c]⟩) = 0 := hE
  have e2 : p.addS j.y.size (RecR.abs ⟨k, some ⟨w.heap.size, 0, none⟩, 1, [c]⟩) = p.add ⟨k, [c]⟩ := if_pos hE
  rw [e2] at n
  obtain ⟨j', g1, g2, g3, g4, g5, g6⟩ := n.out (h.below b).ok hb'
  exact ⟨by rw [e1], j', g1, g2, g3, g4, g5, (b.mono hbase).trans g6⟩
theorem bstr_a : (bstr [97]).toList = [97] := by
  show ByteArray.toList.loop (bstr [97]) 0 [] = [97]
  rw [ByteArray.toList.loop, if_pos (by decide), ByteArray.toList.loop, if_neg (by decide)]
  rfl
theorem w_add1 : addE 64 wP0 wR1 = 0 := by decide
theorem w_add2 : addE 64 (wP0.add wR1).sync wR2 = 0 := by decide
set_option maxHeartbeats 3200000 in
set_option maxRecDepth 100000 in
theorem wakes_calls (w : World) (hT : Tab w) : Calls Tryd.prog 9 #[] w fun e w' => e = .returned (.bool true) ∧ Below w.heap.size w w' := by
  have hg := hT.lt
  have NC : Calls Tryd.prog 16 #[.int .i64 16, .int .i64 64] w (RetDisk w 16 64) := new_calls 16 64 w (by omega) (by omega) (by omega) (by omega)
  have kc := fun (w : World) (C : Array Value) (n c : Nat) => Lib.run_convert_bytes_const (P := Tryd.prog) w 24 5 C n c Tryd.underlying24 Tryd.underlying5
  have hq : goodP ((16 : Nat) : Int) ((64 : Nat) : Int) ((0 : Nat) : Int) ((16 : Nat) : Int) := by unfold goodP; omega
  go_enter Tryd.func9, Tryd.ntmps9
  go_wp2_with fail
  (with_reducible refine NC.mono ?_)
  clear NC
  rintro _ w2 ⟨y, rfl, hd2, ha2, hl2, hs2, b2⟩
  have OB : Calls Tryd.prog 17 #[.pointer (some ⟨y.D, 0, none⟩), .int .i64 0, .int .i64 16] w2 _ := jopen_fresh y 0 16 16 64 w2 w.heap.size hd2 ha2 hl2 hs2 hq (hT.below b2) b2.size hg
  have hsz2 := b2.size
  go_wp2_with fail
  (with_reducible refine OB.mono ?_)
  clear OB
  rintro _ w3 ⟨j, kk, rfl, hL3, _, _, _, hjD, ⟨hjz, hjl⟩, _, k3, _⟩
  have b3 : Below w.heap.size w w3 := b2.trans (k3.below (fun k _ hk => (hd2.foot_lt hk).1) hsz2)
  have hL : JLog w3 w.heap.size j wP0 := by
    rw [List.take_nil] at hL3
    exact hL3
  rw [hs2] at hjz
  rw [hl2] at hjl
  have HL := Lib.hid hL
  clear hq hL hL3 hd2 ha2 hl2 hs2 k3 b2 hsz2
  go_wp2_with fail
  have AC : Calls Tryd.prog 13 #[.pointer (some ⟨j.G, 0, none⟩), .agg #[.int .u8 1, .slice (some ⟨w3.heap.size, 0, none⟩) 1 1]] (w3.alloc (.cells #[.int .u8 97] 5 (1, 2))) _ := wadd j wP0 1 97 w3 w.heap.size HL.out (hT.below b3) b3.size hg (by rw [hjz]; exact w_add1)
  (with_reducible refine AC.mono ?_)
  clear AC
  rintro _ w4 ⟨rfl, j1, L1, G1, D1, z1, l1, b34⟩
  have b4 := b3.trans b34
  have SC := jsync_calls j1 _ w4 w.heap.size L1
  rw [G1] at SC
  have HL1 := Lib.hid L1
  clear L1 b34
  go_wp2_with fail
  (with_reducible refine SC.mono ?_)
  clear SC
  rintro _ w5 ⟨rfl, n5⟩
  obtain ⟨j2, L2, G2, D2, z2, l2, b45⟩ := n5.out HL1.out.ok b4.size
  have b5 := b4.trans b45
  have HL2 := Lib.hid L2
  clear L2 b45 n5
  go_wp2_with fail
  have AC : Calls Tryd.prog 13 #[.pointer (some ⟨j2.G, 0, none⟩), .agg #[.int .u8 2, .slice (some ⟨w5.heap.size, 0, none⟩) 1 1]] (w5.alloc (.cells #[.int .u8 98] 5 (1, 2))) _ := wadd j2 _ 2 98 w5 w.heap.size HL2.out (hT.below b5) b5.size hg (by rw [z2, z1, hjz]; exact w_add2)
  rw [G2, G1] at AC
  (with_reducible refine AC.mono ?_)
  clear AC
  rintro _ w6 ⟨rfl, j3, L3, G3, D3, z3, l3, b56⟩
  have b6 := b5.trans b56
  have hD : j3.y.D = y.D := by rw [D3, D2, D1, hjD]
  have hZ : j3.y.size = 64 := by rw [z3, z2, z1, hjz]
  have hN : j3.y.lp.length = 16 := by rw [l3, l2, l1, hjl]
  have CC : Calls Tryd.prog 23 #[.pointer (some ⟨j3.y.D, 0, none⟩), .slice none 0 0, .int .i64 (-1)] w6 _ := cut_calls j3.y [] none 0 (-1) w6 w.heap.size L3.ok.dk (by have := L3.waits; omega) (by simp) RVF.nil
  rw [hD] at CC
  have HL3 := Lib.hid L3
  clear L3 b56 z1 z2 z3 l1 l2 l3 G1 G2 G3 D1 D2 D3
  go_wp2_with fail
  (with_reducible refine CC.mono ?_)
  clear CC
  rintro _ w7 ⟨rfl, n7⟩
  obtain ⟨y7, C7⟩ := cut_state n7
  clear n7
  have OC := on_next y7 w7 w.heap.size C7.ok
  rw [C7.D, hD] at OC
  have HC7 := Lib.hid C7
  clear C7
  go_wp2_with fail
  (with_reducible refine OC.mono ?_)
  clear OC
  rintro _ w8 ⟨rfl, n8⟩
  obtain ⟨y8, C8⟩ := on_state HC7.out n8
  have b8 := b6.trans (C8.lower HL3.out.ok.dk b6.size)
  have D8 := HL3.out.inv.lost
  clear n8
  have OB : Calls Tryd.prog 17 #[.pointer (some ⟨j3.y.D, 0, none⟩), .int .i64 0, .int .i64 16] w8 _ := reopen_calls (f := 0) (s := 16) C8 (by rw [hZ, hN]; unfold goodP; omega) D8 (by decide) (by decide) (hT.below b8) b8.size hg
  rw [hD] at OB
  have HC8 := Lib.hid C8
  clear C8 D8
  go_wp2_with fail
  (with_reducible refine OB.mono ?_)
  clear OB
  rintro _ w9 ⟨m, k9, rfl, L9, q1, q2, _, _, _, _, K9, _⟩
  have b9 := b8.trans (K9.below (fun i _ hi => (HC8.out.ok.foot_lt hi).1) b8.size)
  obtain rfl : k9 = 1 := by
    have := q1 rfl
    simp [PJ.add, PJ.sync, wP0] at this q2
    omega
  have HL9 := Lib.hid L9
  clear L9 K9 q1 q2
  have L9 : JLog w9 w.heap.size m ⟨0, 8, 1, 2, [wR1], 1⟩ := HL9.out
  have AC := jall_n m ⟨0, 8, 1, 2, [wR1], 1⟩ 1 rfl w9 w.heap.size L9
  have EQ : m.epoch = 2 := L9.fe
  clear L9
  go_wp2_with fail
  (with_reducible refine AC.mono ?_)
  clear AC
  rintro _ w10 ⟨A, c, xs, rfl, _, _, _, b10⟩
  have L10 : JLog w10 w.heap.size m ⟨0, 8, 1, 2, [wR1], 1⟩ := JLog.below HL9.out b10
  have AC := jall_n m ⟨0, 8, 1, 2, [wR1], 1⟩ 1 rfl w10 w.heap.size L10
  have HL10 := Lib.hid L10
  have B10 := b9.trans (b10.mono b9.size)
  clear L10
  go_wp2_with fail
  (with_reducible refine AC.mono ?_)
  clear AC
  rintro _ w11 ⟨A2, c2, xs2, rfl, hl2, ha2, r2, b11⟩
  have B11 := B10.trans (b11.mono B10.size)
  have EC := jepoch_calls m w11 w.heap.size (HL10.out.below b11).ok
  rw [EQ] at EC
  have rv := own_rows r2 hl2
  obtain ⟨x, rfl⟩ := List.length_eq_one_iff.1 hl2
  obtain ⟨xk, xA, xc, xb⟩ := x
  obtain ⟨g, off, rfl, hgl, x0, x1⟩ := rec_elem rv (k := 0) rfl
  have hx : RecR.abs ⟨xk, xA, xc, xb⟩ = wR1 := by simpa using ha2
  obtain rfl : xb = [97] := congrArg Rec.body hx
  have rd := (r2.ks _ (List.mem_singleton.2 rfl)).rd.rv
  have KS := run_str (P := Tryd.prog) w11 24 5 9 Tryd.underlying24 Tryd.underlying5 Tryd.underlying9 xA [97] 1 xc rd rfl
  have x1' : w11.cell? ⟨g, off + 1, none⟩ = some (.slice xA 1 xc) := x1
  clear x1 rv ha2 r2 hx rd
  have hbs := bstr_a
  go_wp2_with fail
  (with_reducible refine EC.mono ?_)
  clear EC
  rintro _ w12 ⟨rfl, rfl⟩
  go_wp2_with fail
  go_ret
  exact ⟨rfl, B11⟩
end Go.Proofs.YtpojlchikaffhaaDoor
