/-
  The walk of package page's read: a sector whose sum is right, way by way.
-/
import Derived.Test.YtendnkklbeiegaaGreatDoorMAI
import Derived.Test.YtendnkklbeiegaaGreatDoorPageWalkD
import Derived.Deep.RegionHeld3
namespace Go.Proofs.YtendnkklbeiegaaGreatDoor
open Go.RowKit DiskP SumP PageP

theorem rd_by (l : List UInt8) (k0 k13 : UInt8) (p NL : Nat) (h : l.length = p + 18) (hp : 1 ≤ p) (hs : beN (l.drop (l.length - 4)) = crc (l.take (l.length - 4))) (h0 : l[0]? = some k0) (h13 : l[13]? = some k13) (hN : beN (PageP.sub l 9 13) = NL) :
    rdMany l = min NL p ∧ rdOK l = (decide (k0 ≠ 0) && decide (k13.toNat ≤ 1) && decide (NL ≤ 1073741824) && (decide (k13 = 1) || decide (NL ≠ 0)) && plainB (PageP.sub l (14 + min NL p) (p + 14))) ∧
      rdS l = ⟨k0, sg64 (beN (PageP.sub l 1 9)), NL, decide (k13 = 1), PageP.sub l 14 (14 + min NL p)⟩ := by
  have hm : rdMany l = min NL p := by unfold rdMany; rw [hN]; omega
  have g0 : l.getD 0 0 = k0 := by simp [List.getD, h0]
  have g13 : l.getD 13 0 = k13 := by simp [List.getD, h13]
  refine ⟨hm, ?_, ?_⟩
  · unfold rdOK
    rw [hm, g0, g13, hN, show decide (19 ≤ l.length) = true by simp; omega, show decide (beN (l.drop (l.length - 4)) = crc (l.take (l.length - 4))) = true by simpa using hs, show l.length - 4 = p + 14 by omega]
    simp
  · unfold rdS
    rw [hm, g0, g13, hN]
theorem sg64_wrap (n : Nat) (h : n < 18446744073709551616) : IntKind.i64.wrap (n : Int) = sg64 n := by
  unfold sg64
  simp [IntKind.wrap, IntKind.signed, IntKind.bits]
  split <;> split <;> omega
theorem below5 {w w' : World} {A : Nat} (hb : Below A w w') (c0 c1 c2 c3 c4 : Value) : Below A w (((((w'.setCell ⟨A, 0, none⟩ c0).setCell ⟨A, 1, none⟩ c1).setCell ⟨A, 2, none⟩ c2).setCell ⟨A, 3, none⟩ c3).setCell ⟨A, 4, none⟩ c4) :=
  ((((hb.setCell (Nat.le_refl _) _).setCell (Nat.le_refl _) _).setCell (Nat.le_refl _) _).setCell (Nat.le_refl _) _).setCell (Nat.le_refl _) _
set_option maxHeartbeats 40000000 in
set_option maxRecDepth 100000 in
theorem rd_right (l : List UInt8) (g cap : Nat) (w : World) (hT : Tab w) (hR : RB w (some ⟨g, 0, none⟩) l) (hl : l.length ≤ 4096) (hcap : l.length ≤ cap) (h : 19 ≤ l.length) (hs : beN (l.drop (l.length - 4)) = crc (l.take (l.length - 4))) (k0 k13 : UInt8) (hk0 : l[0]? = some k0) (hk13 : l[13]? = some k13) (p NL : Nat) (hlp : l.length = p + 18) (hnl0 : beN (PageP.sub l 9 13) = NL)  :
    Calls Tryz.prog 128 #[.slice (some ⟨g, 0, none⟩) l.length cap] w (RetRd w l g) := by
  have HS := Lib.hid hs
  have HNL := Lib.hid hnl0
  clear hnl0
  have hp1 : 1 ≤ p := by omega
  have hp2 : p ≤ 4078 := by omega
  have HLP := Lib.hid hlp
  have HP : Hid (l.length - 4 = p + 14) := by show _ = _; omega
  have hle1 : p + 18 ≤ l.length := by omega
  have hle2 : l.length ≤ p + 18 := by omega
  have hle3 : p + 18 ≤ cap := by omega
  clear hlp
  have d1 : decide ((l.length : Int) < 19) = false := by simp; omega
  have E4 : Hid ((l.length : Int) - 4 = ((l.length - 4 : Nat) : Int)) := by show _ = _; omega
  have n4 : l.length - 4 ≤ l.length := by omega
  have n5 : (cap = l.length - 4) = False := by simp; omega
  have n6 : l.length - (l.length - 4) = 4 := by omega
  have r1 : RB w (some ⟨g, l.length - 4, none⟩) (l.drop (l.length - 4)) := by
    have := RB.sub hR (l.length - 4) l.length
    rw [Nat.zero_add] at this
    unfold PageP.sub at this
    rw [List.take_length] at this
    exact this
  have r2 : RB w (some ⟨g, 0, none⟩) (l.take (l.length - 4)) := by
    have := RB.sub hR 0 (l.length - 4)
    unfold PageP.sub at this
    exact this
  have B1 : Below w.heap.size w (w.alloc (.cells #[.int .u8 0, .int .i64 0, .int .u64 0, .bool false, .slice none 0 0] 221)) := (Below.refl _ _).alloc (Nat.le_refl _) _
  have C1 := fun (w1 : World) (b1 : Below w.heap.size w w1) => number_len (l.drop (l.length - 4)) 4 (some ⟨g, l.length - 4, none⟩) (cap - (l.length - 4)) w1 (r1.below b1) (by rw [List.length_drop]; omega) (by omega)
  have C2 := fun (w1 : World) (b1 : Below w.heap.size w w1) => of_len (l.take (l.length - 4)) (l.length - 4) (some ⟨g, 0, none⟩) cap w1 (hT.far (Kept.of_below b1 (fun _ => False)) (fun h => h)) (by rw [List.length_take]; omega) (by omega) (r2.below b1)
  have hlt := crc_lt (l.take (l.length - 4))
  have e1 : (((beN (l.drop (l.length - 4)) : Nat) : Int) != ((crc (l.take (l.length - 4)) : Nat) : Int)) = false := by simp; omega
  have e2 : (beN (l.drop (l.length - 4)) != crc (l.take (l.length - 4))) = false := by simpa using hs
  generalize beN (l.drop (l.length - 4)) = s1 at C1 e1 e2
  generalize crc (l.take (l.length - 4)) = s2 at C2 hlt e1 e2
  have wz : IntKind.u64.wrap (s2 : Int) = (s2 : Int) := by rw [u64_wrap]; omega
  clear hs
  go_enter Tryz.func128, Tryz.ntmps128
  go_wp2
  rw [E4.out]
  refine wp_region_grow (by kernel_rfl) (by kernel_rfl) ?_
  repeat (go_big_quiet_step (fail))
  go_big_quiet_step (exact calls_grow_same (C1 _ (B1.trans ((grow_below _ _).mono (by simp)))))
  repeat (go_big_quiet_step (fail))
  go_big_quiet_step (exact calls_grow_same (C2 _ (B1.trans ((grow_below _ _).mono (by simp)))))
  repeat (go_big_quiet_step (fail))
  refine wpQuiet_nil ?_
  intro _ hw'
  obtain ⟨r9, rfl⟩ := hw'
  have b2 := grow_below (w.alloc (.cells #[.int .u8 0, .int .i64 0, .int .u64 0, .bool false, .slice none 0 0] 221)) r9
  have z2 := (Blk.new w 221 #[.int .u8 0, .int .i64 0, .int .u64 0, .bool false, .slice none 0 0]).below b2 (by simp)
  have b2' : Below w.heap.size w _ := B1.trans (b2.mono (by simp))
  generalize grow (w.alloc (.cells #[.int .u8 0, .int .i64 0, .int .u64 0, .bool false, .slice none 0 0] 221)) r9 = w2 at b2' z2 ⊢
  clear b2 C1 C2 B1 wz
  have p0 : w2.cell? ⟨w.heap.size, 0, none⟩ = some (.int .u8 0) := z2.at_ rfl
  have p1 : w2.cell? ⟨w.heap.size, 1, none⟩ = some (.int .i64 0) := z2.at_ rfl
  have p2 : w2.cell? ⟨w.heap.size, 2, none⟩ = some (.int .u64 0) := z2.at_ rfl
  have p3 : w2.cell? ⟨w.heap.size, 3, none⟩ = some (.bool false) := z2.at_ rfl
  have p4 : w2.cell? ⟨w.heap.size, 4, none⟩ = some (.slice none 0 0) := z2.at_ rfl
  have y0 := z2.frozen 0
  have y1 := z2.frozen 1
  have y2 := z2.frozen 2
  have y3 := z2.frozen 3
  have y4 := z2.frozen 4
  have q1 : RB w2 (some ⟨g, 1, none⟩) (PageP.sub l 1 9) := (RB.sub hR 1 9).below b2'
  have q2 : RB w2 (some ⟨g, 9, none⟩) (PageP.sub l 9 13) := (RB.sub hR 9 13).below b2'
  have HK0 := Lib.hid hk0
  have HK13 := Lib.hid hk13
  have cc : ∀ i (c : UInt8), l[i]? = some c → w2.cell? ⟨g, i, none⟩ = some (.int .u8 (c.toNat : Int)) ∧ g < w2.heap.size := by
    intro i c hc
    obtain ⟨b, off, e, hb, hcc⟩ := (hR.below b2') (by intro e; have := cB_len l; rw [e] at this; simp at this; omega)
    injection e with e
    injection e with ea eb
    subst ea eb
    have := hcc i (.int .u8 (c.toNat : Int)) (by simp [cB, hc, byteV])
    rw [Nat.zero_add] at this
    exact ⟨this, hb⟩
  have a0 := (cc 0 k0 hk0).1
  have a13 := (cc 13 k13 hk13).1
  have ag := (cc 0 k0 hk0).2
  clear cc hk0 hk13
  have i0 : (0 : Int) < (l.length : Int) := by omega
  have i0n : 0 < l.length := by omega
  have i13 : (13 : Int) < (l.length : Int) := by omega
  have i9 : (9 : Int) ≤ (cap : Int) := by omega
  have i13' : (13 : Int) ≤ (cap : Int) := by omega
  have i9n : 9 ≤ cap := by omega
  have i13n : 13 ≤ cap := by omega
  have j1 : (cap = 1) = False := by simp; omega
  have j9 : (cap = 9) = False := by simp; omega
  go_wp2
  go_region_held3 (fun wq => wq.cell? ⟨g, 0, none⟩ = some (.int .u8 (k0.toNat : Int)) ∧ wq.cell? ⟨g, 13, none⟩ = some (.int .u8 (k13.toNat : Int))) (first | exact ⟨a0, a13⟩ | go_keep) (first
    | (go_at_call 161; (with_reducible refine (number_len (PageP.sub l 1 9) 8 (some ⟨g, 1, none⟩) (cap - 1) (w2.drew) (q1.drew) (sub_len _ _ _ (by omega)) (by omega)).mono ?_); rintro e w9' ⟨rfl, rfl⟩)
    | (go_at_call 161; (with_reducible refine (number_len (PageP.sub l 9 13) 4 (some ⟨g, 9, none⟩) (cap - 9) (w2.drew) (q2.drew) (sub_len _ _ _ (by omega)) (by omega)).mono ?_); rintro e w9' ⟨rfl, rfl⟩)
    | (go_at_call 161; (with_reducible refine (number_len (PageP.sub l 1 9) 8 (some ⟨g, 1, none⟩) (cap - 1) ((w2.alloc (.cells #[.int .u8 0, .int .i64 0, .int .u64 0, .bool false, .slice none 0 0] 221)).drew) ((q1.alloc _).drew) (sub_len _ _ _ (by omega)) (by omega)).mono ?_); rintro e w9' ⟨rfl, rfl⟩)
    | (go_at_call 161; (with_reducible refine (number_len (PageP.sub l 9 13) 4 (some ⟨g, 9, none⟩) (cap - 9) ((w2.alloc (.cells #[.int .u8 0, .int .i64 0, .int .u64 0, .bool false, .slice none 0 0] 221)).drew) ((q2.alloc _).drew) (sub_len _ _ _ (by omega)) (by omega)).mono ?_); rintro e w9' ⟨rfl, rfl⟩))
  all_goals
    clear q1 q2 i0 i0n i13 i9 i13' i9n i13n j1 j9 a0 p0 p1 p2 p3 p4 y0 y1 y2 y3 y4
    go_wp2_with ((with_reducible show wpList _ _ _ (⟨some 40, _, _, _, _, _⟩ :: _) _ _); refine wpList_abs (fun w3 => Blk w3 w2.heap.size 221 #[.int .u8 (k0.toNat : Int), .int .i64 (IntKind.i64.wrap ((beN (PageP.sub l 1 9) : Nat) : Int)), .int .u64 ((beN (PageP.sub l 9 13) : Nat) : Int), .bool ((k13.toNat : Int) == 1), .slice none 0 0] ∧ Blk w3 w.heap.size 221 #[.int .u8 0, .int .i64 0, .int .u64 0, .bool false, .slice none 0 0] ∧ Below w.heap.size w w3 ∧ w3.cell? ⟨g, 13, none⟩ = some (.int .u8 (k13.toNat : Int))) (⟨Blk.drew (Blk.new w2 _ _), Blk.drew (z2.alloc _), Below.drew (b2'.alloc b2'.size _), (World.cell?_alloc_lt w2 _ ⟨g, 13, none⟩ ag).trans a13⟩) ?_)
    rintro w3 ⟨x3, z3, b3, a13'⟩
    rw [HP.out]
    generalize hmm : IntKind.i64.wrap ((beN (PageP.sub l 1 9) : Nat) : Int) = mk at x3
    generalize hfb : ((k13.toNat : Int) == 1) = fb at x3
    rw [HNL.out] at x3
    have HMM := Lib.hid hmm
    have HFB := Lib.hid hfb
    have hNLb : NL < 4294967296 := by
      have h1 := beN_lt (PageP.sub l 9 13)
      rw [sub_len _ _ _ (by omega)] at h1
      rw [← HNL.out]
      exact h1
    have s0 : w3.cell? ⟨w2.heap.size, 0, none⟩ = some (.int .u8 (k0.toNat : Int)) := x3.at_ rfl
    have s1 : w3.cell? ⟨w2.heap.size, 1, none⟩ = some (.int .i64 mk) := x3.at_ rfl
    have s2 : w3.cell? ⟨w2.heap.size, 2, none⟩ = some (.int .u64 (NL : Int)) := x3.at_ rfl
    have s3 : w3.cell? ⟨w2.heap.size, 3, none⟩ = some (.bool fb) := x3.at_ rfl
    have s4 : w3.cell? ⟨w2.heap.size, 4, none⟩ = some (.slice none 0 0) := x3.at_ rfl
    have t4 := x3.frozen 4
    have p0 : w3.cell? ⟨w.heap.size, 0, none⟩ = some (.int .u8 0) := z3.at_ rfl
    have p1 : w3.cell? ⟨w.heap.size, 1, none⟩ = some (.int .i64 0) := z3.at_ rfl
    have p2 : w3.cell? ⟨w.heap.size, 2, none⟩ = some (.int .u64 0) := z3.at_ rfl
    have p3 : w3.cell? ⟨w.heap.size, 3, none⟩ = some (.bool false) := z3.at_ rfl
    have p4 : w3.cell? ⟨w.heap.size, 4, none⟩ = some (.slice none 0 0) := z3.at_ rfl
    have y0 := z3.frozen 0
    have y1 := z3.frozen 1
    have y2 := z3.frozen 2
    have y3 := z3.frozen 3
    have y4 := z3.frozen 4
    have lw : w.heap.size < w2.heap.size := z2.lt
    have RDB := Lib.hid (rd_by l k0 k13 p NL HLP.out hp1 HS.out HK0.out HK13.out HNL.out)
    have HF : Hid (rdOK l = false → ∀ w', Below w.heap.size w w' → RetRd w l g (.returned (.tuple #[zeroSec, .bool false])) w') := fun hr w' hb => ⟨hb, by unfold rd; rw [hr]; rfl⟩
    have HOK : Hid (∀ (w' : World) (many c : Nat), rdOK l = true → Below w.heap.size w w' → min NL p = many → RetRd w l g (.returned (.tuple #[.agg #[.int .u8 (k0.toNat : Int), .int .i64 mk, .int .u64 (NL : Int), .bool fb, .slice (some ⟨g, 14, none⟩) many c], .bool true])) w') := by
      rintro w' many c hr hb rfl
      refine ⟨hb, ?_⟩
      unfold rd
      rw [hr, if_pos rfl]
      refine ⟨c, ?_⟩
      rw [RDB.out.2.2]
      unfold secV
      have e1 : sg64 (beN (PageP.sub l 1 9)) = mk := by
        rw [← sg64_wrap]
        · exact HMM.out
        · have h1 := beN_lt (PageP.sub l 1 9)
          rw [sub_len _ _ _ (by omega)] at h1
          exact h1
      have e2 : decide (k13 = 1) = fb := by
        rw [← HFB.out, Bool.eq_iff_iff]
        simp only [decide_eq_true_eq, beq_iff_eq]
        rw [← UInt8.toNat_inj]
        show k13.toNat = 1 ↔ _
        omega
      have e3 : (PageP.sub l 14 (14 + min NL p)).length = min NL p := by rw [sub_len _ _ _ (by rw [HLP.out]; omega)]; omega
      simp only [e1, e2, e3]
    clear x3 z3 z2 hmm hfb a13 ag b2'
    by_cases c0 : k0 = 0
    · by_cases hA : NL ≤ p
      ·
        have e0 : ((k0.toNat : Int) == 0) = true := by rw [c0]; rfl
        go_wp2
        refine bodyPost_ret (v := .tuple #[zeroSec, .bool false]) (by simp [results, Tryz.results128, go_sem, zeroSec, p0, p1, p2, p3, p4]) rfl (HF.out ?_ _ (below5 b3 _ _ _ _ _))
        rw [RDB.out.2.1, c0]; rfl
      ·
        have e0 : ((k0.toNat : Int) == 0) = true := by rw [c0]; rfl
        go_wp2
        refine bodyPost_ret (v := .tuple #[zeroSec, .bool false]) (by simp [results, Tryz.results128, go_sem, zeroSec, p0, p1, p2, p3, p4]) rfl (HF.out ?_ _ (below5 b3 _ _ _ _ _))
        rw [RDB.out.2.1, c0]; rfl
    · by_cases c13 : 1 < k13.toNat
      · by_cases hA : NL ≤ p
        ·
          have e0 : ((k0.toNat : Int) == 0) = false := by
            have : ¬ k0.toNat = 0 := fun e => c0 (by rw [← UInt8.toNat_inj, e]; rfl)
            simp; omega
          have e13 : decide (1 < (k13.toNat : Int)) = true := by simp; omega
          have HR : Hid (rdOK l = false) := by show _ = _; rw [RDB.out.2.1, show decide (k13.toNat ≤ 1) = false by simp; omega]; simp
          go_wp2
          refine bodyPost_ret (v := .tuple #[zeroSec, .bool false]) (by simp [results, Tryz.results128, go_sem, zeroSec, p0, p1, p2, p3, p4]) rfl (HF.out ?_ _ (below5 b3 _ _ _ _ _))
          exact HR.out
        ·
          have e0 : ((k0.toNat : Int) == 0) = false := by
            have : ¬ k0.toNat = 0 := fun e => c0 (by rw [← UInt8.toNat_inj, e]; rfl)
            simp; omega
          have e13 : decide (1 < (k13.toNat : Int)) = true := by simp; omega
          have HR : Hid (rdOK l = false) := by show _ = _; rw [RDB.out.2.1, show decide (k13.toNat ≤ 1) = false by simp; omega]; simp
          go_wp2
          refine bodyPost_ret (v := .tuple #[zeroSec, .bool false]) (by simp [results, Tryz.results128, go_sem, zeroSec, p0, p1, p2, p3, p4]) rfl (HF.out ?_ _ (below5 b3 _ _ _ _ _))
          exact HR.out
      · have c13g := c13; clear c13
        by_cases c13 : k13.toNat = 0
        · clear c13g
          by_cases hz0 : NL = 0
          ·
            have e0 : ((k0.toNat : Int) == 0) = false := by
              have : ¬ k0.toNat = 0 := fun e => c0 (by rw [← UInt8.toNat_inj, e]; rfl)
              simp; omega
            have e13 : decide (1 < (k13.toNat : Int)) = false := by simp; omega
            obtain rfl : fb = false := by rw [← HFB.out]; simp; omega
            have HR : Hid (rdOK l = false) := by
              show _ = _
              have : ¬ k13 = 1 := fun e => by rw [e] at c13; cases c13
              rw [RDB.out.2.1, hz0]
              simp [this]
            subst hz0
            go_wp2
            refine bodyPost_ret (v := .tuple #[zeroSec, .bool false]) (by simp [results, Tryz.results128, go_sem, zeroSec, p0, p1, p2, p3, p4]) rfl (HF.out ?_ _ (below5 b3 _ _ _ _ _))
            exact HR.out
          · by_cases hA : NL ≤ p
            · cases hpl : plainB (PageP.sub l (14 + NL) (p + 14)) with
              | false =>
                have e0 : ((k0.toNat : Int) == 0) = false := by
                  have : ¬ k0.toNat = 0 := fun e => c0 (by rw [← UInt8.toNat_inj, e]; rfl)
                  simp; omega
                have e13 : decide (1 < (k13.toNat : Int)) = false := by simp; omega
                obtain rfl : fb = false := by rw [← HFB.out]; simp; omega
                have hz : ((NL : Int) == 0) = false := by simp; omega
                have HM : Hid (min NL p = NL) := by show _ = _; omega
                have HR : Hid (rdOK l = false) := by show _ = _; rw [RDB.out.2.1, HM.out, hpl]; simp
                have PL := fun (w' : World) (b' : Below w.heap.size w w') => plain_len (PageP.sub l (14 + NL) (p + 14)) (p + 14 - (14 + NL)) (some ⟨g, 14 + NL, none⟩) (cap - (14 + NL)) w' (by have := (RB.sub hR (14 + NL) (p + 14)).below b'; rw [Nat.zero_add] at this; exact this) (sub_len _ _ _ (by rw [HLP.out]; omega)) (by omega)
                have hcN : (cap = 14 + NL) = False := by simp; omega
                have hc4 : (cap = 14) = False := by simp; omega
                rw [hpl] at PL
                go_wp2_with fail
                (with_reducible refine (PL w3 b3).mono ?_)
                rintro e w4 ⟨rfl, rfl⟩
                clear PL
                clear hpl
                go_wp2
                refine bodyPost_ret (v := .tuple #[zeroSec, .bool false]) (by simp [results, Tryz.results128, go_sem, zeroSec, p0, p1, p2, p3, p4]) rfl (HF.out ?_ _ (below5 b3 _ _ _ _ _))
                exact HR.out
              | true =>
                have e0 : ((k0.toNat : Int) == 0) = false := by
                  have : ¬ k0.toNat = 0 := fun e => c0 (by rw [← UInt8.toNat_inj, e]; rfl)
                  simp; omega
                have e13 : decide (1 < (k13.toNat : Int)) = false := by simp; omega
                obtain rfl : fb = false := by rw [← HFB.out]; simp; omega
                have hz : ((NL : Int) == 0) = false := by simp; omega
                have HM : Hid (min NL p = NL) := by show _ = _; omega
                have HR : Hid (rdOK l = true) := by
                  show _ = _
                  rw [RDB.out.2.1, HM.out, hpl]
                  simp only [Bool.and_true]
                  simp [c0, show k13.toNat ≤ 1 by omega, hz0]
                  omega
                have PL := fun (w' : World) (b' : Below w.heap.size w w') => plain_len (PageP.sub l (14 + NL) (p + 14)) (p + 14 - (14 + NL)) (some ⟨g, 14 + NL, none⟩) (cap - (14 + NL)) w' (by have := (RB.sub hR (14 + NL) (p + 14)).below b'; rw [Nat.zero_add] at this; exact this) (sub_len _ _ _ (by rw [HLP.out]; omega)) (by omega)
                have hcN : (cap = 14 + NL) = False := by simp; omega
                have hc4 : (cap = 14) = False := by simp; omega
                rw [hpl] at PL
                go_wp2_with fail
                (with_reducible refine (PL w3 b3).mono ?_)
                rintro e w4 ⟨rfl, rfl⟩
                clear PL
                clear hpl
                go_wp2
                refine bodyPost_ret (v := .tuple #[.agg #[.int .u8 (k0.toNat : Int), .int .i64 mk, .int .u64 (NL : Int), .bool false, .slice (some ⟨g, 14, none⟩) NL (cap - 14)], .bool true]) (by simp [results, Tryz.results128, go_sem, p0, p1, p2, p3, p4]) rfl (HOK.out _ _ _ HR.out ?_ (by omega))
                exact below5 (b3.setCell (Nat.le_of_lt lw) _) _ _ _ _ _
            · have hA0 := hA; clear hA
              have hA : p < NL := by omega
              clear hA0
              by_cases hbig : NL ≤ 1073741824
              ·
                have e0 : ((k0.toNat : Int) == 0) = false := by
                  have : ¬ k0.toNat = 0 := fun e => c0 (by rw [← UInt8.toNat_inj, e]; rfl)
                  simp; omega
                have e13 : decide (1 < (k13.toNat : Int)) = false := by simp; omega
                obtain rfl : fb = false := by rw [← HFB.out]; simp; omega
                have hz : ((NL : Int) == 0) = false := by simp; omega
                have eb : decide (1073741824 < (NL : Int)) = false := by simp; omega
                have HM : Hid (min NL p = p) := by show _ = _; omega
                have hsub : PageP.sub l (14 + p) (p + 14) = [] := by unfold PageP.sub; rw [List.drop_of_length_le]; simp; omega
                have HR : Hid (rdOK l = true) := by
                  show _ = _
                  rw [RDB.out.2.1, HM.out, hsub, show plainB [] = true from rfl]
                  simp only [Bool.and_true]
                  simp [c0, show k13.toNat ≤ 1 by omega, hz0]
                  omega
                clear hsub
                have PL := fun (w' : World) (b' : Below w.heap.size w w') => plain_len [] (p + 14 - (14 + p)) (some ⟨g, 14 + p, none⟩) (cap - (14 + p)) w' RB.nil (by rw [List.length_nil]; omega) (by omega)
                rw [show plainB [] = true from rfl] at PL
                have hcN : (cap = 14 + p) = False := by simp; omega
                have hc4 : (cap = 14) = False := by simp; omega
                go_wp2_with fail
                (with_reducible refine (PL w3 b3).mono ?_)
                rintro e w4 ⟨rfl, rfl⟩
                clear PL
                go_wp2
                refine bodyPost_ret (v := .tuple #[.agg #[.int .u8 (k0.toNat : Int), .int .i64 mk, .int .u64 (NL : Int), .bool false, .slice (some ⟨g, 14, none⟩) p (cap - 14)], .bool true]) (by simp [results, Tryz.results128, go_sem, p0, p1, p2, p3, p4]) rfl (HOK.out _ _ _ HR.out ?_ (by omega))
                exact below5 (b3.setCell (Nat.le_of_lt lw) _) _ _ _ _ _
              · have hbig0 := hbig; clear hbig
                have hbig : 1073741824 < NL := by omega
                clear hbig0
                have e0 : ((k0.toNat : Int) == 0) = false := by
                  have : ¬ k0.toNat = 0 := fun e => c0 (by rw [← UInt8.toNat_inj, e]; rfl)
                  simp; omega
                have e13 : decide (1 < (k13.toNat : Int)) = false := by simp; omega
                obtain rfl : fb = false := by rw [← HFB.out]; simp; omega
                have hz : ((NL : Int) == 0) = false := by simp; omega
                have eb : decide (1073741824 < (NL : Int)) = true := by simp; omega
                have HR : Hid (rdOK l = false) := by show _ = _; rw [RDB.out.2.1, show decide (NL ≤ 1073741824) = false by simp; omega]; simp
                go_wp2
                refine bodyPost_ret (v := .tuple #[zeroSec, .bool false]) (by simp [results, Tryz.results128, go_sem, zeroSec, p0, p1, p2, p3, p4]) rfl (HF.out ?_ _ (below5 b3 _ _ _ _ _))
                exact HR.out
        · have c13z := c13; clear c13
          have c13 : k13 = 1 := by rw [← UInt8.toNat_inj]; show k13.toNat = 1; omega
          clear c13g c13z
          by_cases hA : NL ≤ p
          · cases hpl : plainB (PageP.sub l (14 + NL) (p + 14)) with
            | false =>
              have e0 : ((k0.toNat : Int) == 0) = false := by
                have : ¬ k0.toNat = 0 := fun e => c0 (by rw [← UInt8.toNat_inj, e]; rfl)
                simp; omega
              have c13' : k13.toNat = 1 := by rw [c13]; rfl
              have e13 : decide (1 < (k13.toNat : Int)) = false := by simp; omega
              obtain rfl : fb = true := by rw [← HFB.out]; simp; omega
              have HM : Hid (min NL p = NL) := by show _ = _; omega
              have HR : Hid (rdOK l = false) := by show _ = _; rw [RDB.out.2.1, HM.out, hpl]; simp
              have PL := fun (w' : World) (b' : Below w.heap.size w w') => plain_len (PageP.sub l (14 + NL) (p + 14)) (p + 14 - (14 + NL)) (some ⟨g, 14 + NL, none⟩) (cap - (14 + NL)) w' (by have := (RB.sub hR (14 + NL) (p + 14)).below b'; rw [Nat.zero_add] at this; exact this) (sub_len _ _ _ (by rw [HLP.out]; omega)) (by omega)
              have hcN : (cap = 14 + NL) = False := by simp; omega
              have hc4 : (cap = 14) = False := by simp; omega
              rw [hpl] at PL
              go_wp2_with fail
              (with_reducible refine (PL w3 b3).mono ?_)
              rintro e w4 ⟨rfl, rfl⟩
              clear PL
              clear hpl
              go_wp2
              refine bodyPost_ret (v := .tuple #[zeroSec, .bool false]) (by simp [results, Tryz.results128, go_sem, zeroSec, p0, p1, p2, p3, p4]) rfl (HF.out ?_ _ (below5 b3 _ _ _ _ _))
              exact HR.out
            | true =>
              have e0 : ((k0.toNat : Int) == 0) = false := by
                have : ¬ k0.toNat = 0 := fun e => c0 (by rw [← UInt8.toNat_inj, e]; rfl)
                simp; omega
              have c13' : k13.toNat = 1 := by rw [c13]; rfl
              have e13 : decide (1 < (k13.toNat : Int)) = false := by simp; omega
              obtain rfl : fb = true := by rw [← HFB.out]; simp; omega
              have HM : Hid (min NL p = NL) := by show _ = _; omega
              have HR : Hid (rdOK l = true) := by
                show _ = _
                rw [RDB.out.2.1, HM.out, hpl]
                simp only [Bool.and_true]
                simp [c0, c13]
                omega
              have PL := fun (w' : World) (b' : Below w.heap.size w w') => plain_len (PageP.sub l (14 + NL) (p + 14)) (p + 14 - (14 + NL)) (some ⟨g, 14 + NL, none⟩) (cap - (14 + NL)) w' (by have := (RB.sub hR (14 + NL) (p + 14)).below b'; rw [Nat.zero_add] at this; exact this) (sub_len _ _ _ (by rw [HLP.out]; omega)) (by omega)
              have hcN : (cap = 14 + NL) = False := by simp; omega
              have hc4 : (cap = 14) = False := by simp; omega
              rw [hpl] at PL
              go_wp2_with fail
              (with_reducible refine (PL w3 b3).mono ?_)
              rintro e w4 ⟨rfl, rfl⟩
              clear PL
              clear hpl
              go_wp2
              refine bodyPost_ret (v := .tuple #[.agg #[.int .u8 (k0.toNat : Int), .int .i64 mk, .int .u64 (NL : Int), .bool true, .slice (some ⟨g, 14, none⟩) NL (cap - 14)], .bool true]) (by simp [results, Tryz.results128, go_sem, p0, p1, p2, p3, p4]) rfl (HOK.out _ _ _ HR.out ?_ (by omega))
              exact below5 (b3.setCell (Nat.le_of_lt lw) _) _ _ _ _ _
          · have hA0 := hA; clear hA
            have hA : p < NL := by omega
            clear hA0
            by_cases hbig : NL ≤ 1073741824
            ·
              have e0 : ((k0.toNat : Int) == 0) = false := by
                have : ¬ k0.toNat = 0 := fun e => c0 (by rw [← UInt8.toNat_inj, e]; rfl)
                simp; omega
              have c13' : k13.toNat = 1 := by rw [c13]; rfl
              have e13 : decide (1 < (k13.toNat : Int)) = false := by simp; omega
              obtain rfl : fb = true := by rw [← HFB.out]; simp; omega
              have eb : decide (1073741824 < (NL : Int)) = false := by simp; omega
              have HM : Hid (min NL p = p) := by show _ = _; omega
              have hsub : PageP.sub l (14 + p) (p + 14) = [] := by unfold PageP.sub; rw [List.drop_of_length_le]; simp; omega
              have HR : Hid (rdOK l = true) := by
                show _ = _
                rw [RDB.out.2.1, HM.out, hsub, show plainB [] = true from rfl]
                simp only [Bool.and_true]
                simp [c0, c13]
                omega
              clear hsub
              have PL := fun (w' : World) (b' : Below w.heap.size w w') => plain_len [] (p + 14 - (14 + p)) (some ⟨g, 14 + p, none⟩) (cap - (14 + p)) w' RB.nil (by rw [List.length_nil]; omega) (by omega)
              rw [show plainB [] = true from rfl] at PL
              have hcN : (cap = 14 + p) = False := by simp; omega
              have hc4 : (cap = 14) = False := by simp; omega
              go_wp2_with fail
              (with_reducible refine (PL w3 b3).mono ?_)
              rintro e w4 ⟨rfl, rfl⟩
              clear PL
              go_wp2
              refine bodyPost_ret (v := .tuple #[.agg #[.int .u8 (k0.toNat : Int), .int .i64 mk, .int .u64 (NL : Int), .bool true, .slice (some ⟨g, 14, none⟩) p (cap - 14)], .bool true]) (by simp [results, Tryz.results128, go_sem, p0, p1, p2, p3, p4]) rfl (HOK.out _ _ _ HR.out ?_ (by omega))
              exact below5 (b3.setCell (Nat.le_of_lt lw) _) _ _ _ _ _
            · have hbig0 := hbig; clear hbig
              have hbig : 1073741824 < NL := by omega
              clear hbig0
              have e0 : ((k0.toNat : Int) == 0) = false := by
                have : ¬ k0.toNat = 0 := fun e => c0 (by rw [← UInt8.toNat_inj, e]; rfl)
                simp; omega
              have c13' : k13.toNat = 1 := by rw [c13]; rfl
              have e13 : decide (1 < (k13.toNat : Int)) = false := by simp; omega
              obtain rfl : fb = true := by rw [← HFB.out]; simp; omega
              have eb : decide (1073741824 < (NL : Int)) = true := by simp; omega
              have HR : Hid (rdOK l = false) := by show _ = _; rw [RDB.out.2.1, show decide (NL ≤ 1073741824) = false by simp; omega]; simp
              go_wp2
              refine bodyPost_ret (v := .tuple #[zeroSec, .bool false]) (by simp [results, Tryz.results128, go_sem, zeroSec, p0, p1, p2, p3, p4]) rfl (HF.out ?_ _ (below5 b3 _ _ _ _ _))
              exact HR.out
end Go.Proofs.YtendnkklbeiegaaGreatDoor
