/-
  The walk of PurgeLoads, where the lines are a log.
-/
import Derived.Test.YtdcjljlppeighaaDoorPurgeLawJ
namespace Go.Proofs.YtdcjljlppeighaaDoor
open Go.RowKit PurgeP

set_option maxHeartbeats 3200000 in
set_option maxRecDepth 100000 in
theorem loads_yes (ls : List LnR) (A : Option Addr) (cap : Nat) (floor : Int) (l : List ActR) (B : Option Addr) (cb : Nat) (w : World) (hS : Std w) (hl : l.length ≤ 9223372036854775807) (hR : RV w B (l.flatMap ActR.cells)) (hx : ∀ o ∈ l, ActOK w o) (hg : greatA l = false)
    (hn : ¬ 20 < ls.length) (hI : LnsIn w A ls) (hIs : ∀ x ∈ ls, KeysOK w x.A x.keys x.cap) (hEE : loadE floor (ls.map LnR.abs) = 0) :
    Calls Tryd.prog 9 #[.slice A ls.length cap, .int .i64 floor, .slice B l.length cb] w fun e w' => e = .returned (.bool true) ∧ Below w.heap.size w w' := by
  have d1 : decide (20 < (ls.length : Int)) = false := decide_eq_false (by omega)
  have d1' : decide (20 < ls.length) = false := decide_eq_false hn
  go_enter Tryd.func9, Tryd.ntmps9
  go_wp2_with fail
  refine (run_yes l B cb w hl hR hx hg).mono ?_
  rintro e w2 ⟨y, z, rfl, hB, b2⟩
  have AW := awake_calls _ (hS.below b2)
  have hg' := hg
  clear hR hx hg
  go_wp2_with fail
  refine AW.mono ?_
  clear AW
  rintro e w3 ⟨rfl, b3⟩
  have B3 := b2.trans (b3.mono b2.size)
  have hB3 := hB.below b3
  clear hB b2 b3
  go_wp2_with fail
  have hyl := hB3.L.len_le
  have hrn := run_now l
  have HLO := Lib.hid (load_ok hrn.1)
  have hga := (great_acts hg').1
  have hnw := hrn.1.now_le
  have HN0 : Hid (0 ≤ (runP l).now) := hnw.1
  have HN1 : Hid ((runP l).now ≤ 1000) := by have := hrn.2; show _ ≤ _; omega
  have hy50 : y.ls.length ≤ 1000 := by
    have h1 : y.ls.length = (runP l).ls.length := by rw [← LogOK.abs_len (y := y), hB3.ya]
    have h2 := hrn.2
    have h3 := hrn.1.f0
    unfold PLog.now at h2
    omega
  clear hrn hnw hga hg'
  go_loopw [9, 39] (fun v i wr => ∃ k : Nat, k ≤ ls.length ∧ i = .int .i64 (k : Int) ∧ Copied w3 ls k v wr) (fun _ i _ => ls.length - (intOf i).toNat)
  case atStart => exact ⟨0, by omega, rfl, [], rfl, rfl, RowOK.nil _ _ _, Below.refl _ _⟩
  case round =>
    obtain ⟨k, hk, rfl, rs, rfl, hra, hrow, bel⟩ := hrel
    obtain ⟨AR, cR, rfl, _, _⟩ := own_form hrow.own
    by_cases hlt : rs.length < ls.length
    · have dec : decide ((rs.length : Int) < (ls.length : Int)) = true := decide_eq_true (by omega)
      have hltI : (rs.length : Int) < (ls.length : Int) := by omega
      have BW := B3.trans (bel.mono B3.size)
      obtain ⟨x, hx⟩ : ∃ x, ls[rs.length]? = some x := ⟨_, List.getElem?_eq_getElem hlt⟩
      have hxm : x ∈ ls := List.mem_of_getElem? hx
      have xrs := ((hI.ks x hxm).rs).below BW
      have hxk := hIs x hxm
      have hxc : x.keys.length ≤ 9223372036854775807 := by have := hxk.le; have := hxk.cap; omega
      have hxs := hxk.small
      obtain ⟨b, off, rfl, hbb, q0, q1, q2⟩ := (hI.below BW).at_ hx
      have HCS := Lib.hid (fun A c => copied_step (A := A) (c := c) hx hra)
      clear hxk hx hxm hra hB3
      obtain ⟨xno, xA, xc, xk, xh⟩ := x
      simp only at q0 q1 q2 xrs hxc hxs
      go_wp2_with ((with_reducible show wpList _ _ _ (⟨some 43, _, _, _, _, _⟩ :: _) _ _); refine wpList_abs (fun w8 => Blk w8 wr.heap.size 51 #[.int .i64 xno, .slice xA xk.length xc, .bool xh] ∧ Below wr.heap.size wr w8) (⟨Blk.new wr _ _, (Below.refl _ _).alloc (Nat.le_refl _) _⟩) ?_)
      intro w8 xb b8
      clear q0 q1 q2
      have x0 : w8.cell? ⟨wr.heap.size, 0, none⟩ = some (.int .i64 xno) := xb.at_ rfl
      have x1 : w8.cell? ⟨wr.heap.size, 1, none⟩ = some (.slice xA xk.length xc) := xb.at_ rfl
      have x2 : w8.cell? ⟨wr.heap.size, 2, none⟩ = some (.bool xh) := xb.at_ rfl
      have xrs8 := xrs.below b8
      have GC := rgreat_calls xk xA xc w8 xrs8 hxc hxs
      cases hq : greatB xk with
      | true =>
        rw [hq] at GC
        clear hq HCS hrow xrs xb
        go_wp2_with fail
        refine GC.mono ?_
        clear GC
        rintro e w9 ⟨rfl, rfl⟩
        go_wp2_with fail
        go_ret
        exact ⟨rfl, BW.trans (b8.mono BW.size)⟩
      | false =>
        rw [hq] at GC
        have hkl : xk.length ≤ 1000000 := by have := (great_no hq).1; omega
        have OC := own_calls xno xk xh xA xc w8 xrs8 hkl
        clear hq xrs xb
        go_wp2_with fail
        refine GC.mono ?_
        clear GC
        rintro e w9 ⟨rfl, rfl⟩
        go_wp2_with fail
        refine OC.mono ?_
        clear OC
        rintro e w9 ⟨A9, c9, rfl, o9, b9⟩
        have b89 := b8.trans (b9.mono b8.size)
        have own9 := (hrow.below b89).own
        have hs9 := b89.size
        have hbs := bel.size
        clear x0 x1 x2
        go_wp2_with ((with_reducible show wpList _ _ _ (⟨some 50, _, _, _, _, _⟩ :: _) _ _); refine wpList_append_rv el_line rfl (.tmp 46) (.tmp 49) rfl w3.heap.size (.slice AR rs.length cR) rs.length (lC rs) rfl (own9.alloc _) (some ⟨w9.heap.size, 0, none⟩) 1 1 [.int .i64 xno, .slice A9 xk.length c9, .bool xh] rfl rfl (RV.new w9 [.int .i64 xno, .slice A9 xk.length c9, .bool xh] 54 (0, 0)) (lC_one [⟨xno, A9, c9, xk, xh⟩]) ?f2 ?f3 ?f4 ?_)
        case f2 => unfold maxLen; omega
        case f3 => omega
        case f4 => simp; omega
        intro v10 w10 own10 gr10 hv10
        have hnew := hrow.push (x := ⟨xno, A9, c9, xk, xh⟩) (fun k hk => hk.elim) (b89.alloc hs9 _) b8.size (o9.alloc _) own10 gr10 (by simpa using hv10)
        have hb10 : Below w3.heap.size w3 w10 := ((bel.trans (b89.mono bel.size)).alloc (by omega) _).grown gr10 (by simp; omega) (fun j hj => ((own9.alloc (.cells #[.int .i64 xno, .slice A9 xk.length c9, .bool xh] 54)).lt j hj).1)
        have HC : Hid (Copied w3 ls (rs.length + 1) v10 w10) := ⟨_, by simp, HCS.out A9 c9, hnew, hb10⟩
        clear own10 gr10 hv10 hnew hb10 own9 hrow
        go_wp2
        go_roundw
        case rel => exact ⟨rs.length + 1, by omega, by go_num, HC.out⟩
        case measure => simp [intOf]; omega
    · have hE : rs.length = ls.length := by omega
      have dec : decide ((rs.length : Int) < (ls.length : Int)) = false := decide_eq_false (by omega)
      have hIn : LnsIn wr AR rs := ⟨(own_rvfN (F := fun _ => False) hrow.own (fun k hk => hk.elim)).rv, fun x hx => ((hrow.ks x hx).mono fun _ _ h => h.elim)⟩
      rw [hE] at hrow ⊢
      rw [hE, List.take_length] at hra
      have hB4 := hB3.below bel
      have BW := B3.trans (bel.mono B3.size)
      have LC := load_calls rs floor AR cR wr hIn (by omega)
      rw [hra, hE] at LC
      clear hB3 hrow
      go_wp2_with fail
      refine LC.mono ?_
      clear LC
      rintro e w5 ⟨b5, h5⟩
      have LR := rload_calls ls floor A cap w5 (hI.below (BW.trans (b5.mono BW.size))) (by omega)
      have B5 := BW.trans (b5.mono BW.size)
      have hB5 := hB4.below b5
      clear hB4 hI hIs hra hIn
      rcases h5 with ⟨hne, _⟩ | ⟨_, y1, rfl, hy1, ha1⟩
      · exact absurd hEE hne
      · go_wp2_with fail
        refine LR.mono ?_
        clear LR
        rintro e w6 ⟨b6, h6⟩
        rcases h6 with ⟨hne, _⟩ | ⟨_, z1, rfl, hz1, hb1⟩
        · exact absurd hEE hne
        · have B6 := B5.trans (b6.mono B5.size)
          have hB6 := hB5.below b6
          have TL := tells_of (hy1.below b6) hz1 ha1 hb1
          clear hB5 hy1 hz1 ha1 hb1 hEE
          generalize (⟨floor, ls.map LnR.abs⟩ : PLog) = Q at *
          have m1 : (Q.now != Q.now) = false := by simp
          have m2 : (Q.floor != Q.floor) = false := by simp
          have bd6 : Below w6.heap.size w6 w6.drew := (Below.refl _ _).drew
          go_wp2_with fail
          have KC6 : ∀ wq, Below w6.heap.size w6 wq → wq.cell? ⟨z1.M, 0, none⟩ = some (.slice z1.A z1.ls.length z1.cap) ∧ wq.cell? ⟨z1.M, 1, none⟩ = some (.int .i64 Q.floor) := fun wq hb => ⟨TL.c0 _ hb, TL.c1 _ hb⟩
          first | (go_region_held_law (fun wq => wq.cell? ⟨z1.M, 0, none⟩ = some (.slice z1.A z1.ls.length z1.cap) ∧ wq.cell? ⟨z1.M, 1, none⟩ = some (.int .i64 Q.floor)) (first | exact KC6 _ b11 | exact KC6 _ b10 | exact KC6 _ b9 | exact KC6 _ b8 | exact KC6 _ bd6 | exact KC6 _ (Below.refl _ _)) ((go_simp; first
            | (go_at_call 15; refine (TL.nw _ bd6).mono ?_; rintro e w8 ⟨rfl, b8x⟩; have b8 := bd6.trans (b8x.mono bd6.size); clear b8x)
            | (go_at_call 16; refine (TL.rn _ b8).mono ?_; rintro e w9 ⟨rfl, b9x⟩; have b9 := b8.trans (b9x.mono b8.size); clear b9x)
            | (go_at_call 17; refine (TL.fl _ b9).mono ?_; rintro e w9b ⟨rfl, rfl⟩)
            | (go_at_call 19; refine (TL.li _ b9).mono ?_; rintro e w10 ⟨v, rfl, b10x, SA⟩; have b10 := b9.trans (b10x.mono b9.size); clear b10x)
            | (go_at_call 18; refine (SA _ (Below.refl _ _)).mono ?_; rintro e w7 ⟨rfl, b11x⟩; have b11 := b10.trans (b11x.mono b10.size); have HF := Lib.hid b11; clear b11x)
            | fail "arm"))) | fail "region"
          all_goals
            have b7 := HF.out
            have B7 := B6.trans (b7.mono B6.size)
            have hB7 := hB6.below b7
            clear TL SA HF b11 b10 b9 b8 KC6 bd6 m1 m2 b7 hB6 B6 B5 b6 b5 BW bel B3
            go_wp2_with fail
            refine (lines_calls y w7 w.heap.size _ hB7.L).mono ?_
            rintro e w8 ⟨v8, rfl, rs8, hr8, hra8, hrow8, b8⟩
            rw [List.take_length] at hra8
            have hyl8 : rs8.map LnR.abs = (runP l).ls := by rw [hra8]; exact congrArg PLog.ls hB7.ya
            obtain ⟨A8, c8, rfl, _, _⟩ := own_form hrow8.own
            have B8 := B7.trans (b8.mono B7.size)
            have hB8 := hB7.below b8
            have FC := floor_calls y w8 w.heap.size _ hB8.L
            rw [show y.floor = (runP l).floor from congrArg PLog.floor hB8.ya] at FC
            have hI8 : LnsIn w8 A8 rs8 := ⟨(own_rvfN (F := fun _ => False) hrow8.own (fun k hk => hk.elim)).rv, fun x hx => ((hrow8.ks x hx).mono fun _ _ h => h.elim)⟩
            have LC := load_calls rs8 (runP l).floor A8 c8 w8 hI8 (by omega)
            rw [hyl8] at LC
            clear hra8 hrow8 hyl8 hI8 hB7
            go_wp2_with fail
            refine FC.mono ?_
            clear FC
            rintro e w8b ⟨rfl, rfl⟩
            rw [hr8] at LC
            go_wp2_with fail
            refine LC.mono ?_
            clear LC
            rintro e w9 ⟨b9, h9⟩
            rcases h9 with ⟨hne9, _⟩ | ⟨_, c, rfl, hc, hca⟩
            · exact absurd HLO.out hne9
            have B9 := B8.trans (b9.mono B8.size)
            have hB9 := hB8.below b9
            have hca' : c.abs = runP l := hca
            have TC := tells_of hc hB9.R hca' hB9.za
            have bd9 : Below w9.heap.size w9 w9.drew := (Below.refl _ _).drew
            have KC9 : ∀ wq, Below w9.heap.size w9 wq → wq.cell? ⟨z.M, 0, none⟩ = some (.slice z.A z.ls.length z.cap) ∧ wq.cell? ⟨z.M, 1, none⟩ = some (.int .i64 (runP l).floor) := fun wq hb => ⟨TC.c0 _ hb, TC.c1 _ hb⟩
            go_wp2_with fail
            first | (go_region_held_law (fun wq => wq.cell? ⟨z.M, 0, none⟩ = some (.slice z.A z.ls.length z.cap) ∧ wq.cell? ⟨z.M, 1, none⟩ = some (.int .i64 (runP l).floor)) (first | exact KC9 _ b11 | exact KC9 _ b10 | exact KC9 _ bd9 | exact KC9 _ (Below.refl _ _)) ((go_simp; first
              | (go_at_call 19; refine (TC.li _ bd9).mono ?_; rintro e w10 ⟨v, rfl, b10x, SA⟩; have b10 := bd9.trans (b10x.mono bd9.size); clear b10x)
              | (go_at_call 18; refine (SA _ (Below.refl _ _)).mono ?_; rintro e w11 ⟨rfl, b11x⟩; have b11 := b10.trans (b11x.mono b10.size); clear b11x)
              | (go_at_call 17; refine (TC.fl _ b11).mono ?_; rintro e w11b ⟨rfl, rfl⟩; have HF := Lib.hid b11)
              | fail "arm"))) | fail "region"
            all_goals
              have h11 := HF.out
              have hc11 := hc.below h11
              have b811 := b9.trans (h11.mono b9.size)
              clear HF TC SA KC9
              obtain ⟨wb, hwb⟩ : ∃ wb, w11.alloc (.cells #[.string ⟨#[110, 101, 119]⟩] 9) = wb := ⟨_, rfl⟩
              have bb : Below w11.heap.size w11 wb := by rw [← hwb]; exact (Below.refl _ _).alloc (Nat.le_refl _) _
              have rr : RS wb (some ⟨w11.heap.size, 0, none⟩) kNew := by rw [← hwb]; exact rs_new w11 kNew
              have b8b := b811.trans (bb.mono b811.size)
              have hcb := hc11.below bb
              have HWB := Lib.hid hwb
              clear hwb
              have AC := add_calls c kNew 1 rfl true (some ⟨w11.heap.size, 0, none⟩) 1 wb w8.heap.size (fun _ => False) (fun k hk => hk.elim) b8b.size hcb rr (Nat.le_refl _) (by omega)
              rw [hca', (right_new HN0.out HN1.out).1, (right_new HN0.out HN1.out).2] at AC
              have HCB := Lib.hid hcb
              have HB8 := Lib.hid hB8
              clear hcb hc11 hc hB8 hB9 hca hca'
              go_wp2_with fail
              rw [HWB.out]
              refine AC.mono ?_
              clear AC HWB rr
              rintro e w12 ⟨rfl, c', -, -, -, hk12, -⟩
              have b12 : Below w8.heap.size wb w12 := hk12.below (fun j _ hj => (HCB.out.foot_lt hj).1) b8b.size
              have b812 := b8b.trans b12
              have hB12 := HB8.out.below b812
              have B12 := B8.trans (b812.mono B8.size)
              have TN := tells_of hB12.L hB12.R hB12.ya hB12.za
              have hN0 := HN0.out
              have hN1 := HN1.out
              clear hk12 HCB HB8 hB12 b12 b812
              generalize runP l = P at *
              have n1 : (P.now + 1 == P.now + 1) = true := beq_self_eq_true _
              have n2 : (P.now == P.now) = true := beq_self_eq_true _
              go_wp2_with fail
              refine (TN.rn _ (Below.refl _ _)).mono ?_
              rintro e w13 ⟨rfl, b13⟩
              go_wp2_with fail
              refine (TN.nw _ b13).mono ?_
              rintro e w14 ⟨rfl, b14x⟩
              have b14 := b13.trans (b14x.mono b13.size)
              clear b14x
              go_wp2_with fail
              refine (TN.rn _ b14).mono ?_
              rintro e w15 ⟨rfl, b15x⟩
              have b15 := b14.trans (b15x.mono b14.size)
              clear TN
              go_wp2_with fail
              go_ret
              exact ⟨rfl, B12.trans (b15.mono B12.size)⟩
theorem purgeLoads_walk (ls : List LnR) (A : Option Addr) (cap : Nat) (floor : Int) (l : List ActR) (B : Option Addr) (cb : Nat) (w : World) (hS : Std w) (hnl : ls.length ≤ 9223372036854775807) (hRl : RV w A (lC ls)) (hxl : ∀ x ∈ ls, LineOK w x) (hl : l.length ≤ 9223372036854775807) (hR : RV w B (l.flatMap ActR.cells)) (hx : ∀ o ∈ l, ActOK w o) :
    Calls Tryd.prog 9 #[.slice A ls.length cap, .int .i64 floor, .slice B l.length cb] w fun e w' => e = .returned (.bool true) ∧ Below w.heap.size w w' := by
  cases hg : greatA l with
  | true => exact loads_off1 ls A cap floor l B cb w hS hl hR hx hg
  | false =>
    by_cases hn : 20 < ls.length
    · exact loads_off2 ls A cap floor l B cb w hS hl hR hx hg hn hnl
    · by_cases h0 : loadE floor (ls.map LnR.abs) = 0
      · exact loads_yes ls A cap floor l B cb w hS hl hR hx hg hn (lns_in hRl hxl) (fun x hm => (hxl x hm).ks) h0
      · exact loads_no ls A cap floor l B cb w hS hl hR hx hg hn (lns_in hRl hxl) (fun x hm => (hxl x hm).ks) h0
end Go.Proofs.YtdcjljlppeighaaDoor
