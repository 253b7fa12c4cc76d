/-
  A disk that is cut, and on again; what is then known of the slices, in plain words.
-/
import Derived.Test.YtendnkklbeiegaaGreatDoorTlKeep
import Derived.Test.YtendnkklbeiegaaGreatDoorMAB
import Derived.Test.YtendnkklbeiegaaGreatDoorMAP
import Derived.Deep.RegionLaw
import Derived.StillTailTactics
namespace Go.Proofs.YtendnkklbeiegaaGreatDoor
open Go.RowKit Go.Maps StoreP JourP DiskP PageP

/-- A disk that is told as d, in the place of y. -/
structure CutD (w : World) (base : Nat) (y : Lay) (d : Dsk) (w' : World) (y' : Lay) : Prop where
  ok : DiskOK w' base y'
  abs : y'.abs = d
  D : y'.D = y.D
  size : y'.size = y.size
  len : y'.lp.length = y.lp.length
  kept : Kept y.foot w w'
  foot : ∀ k, y'.foot k → y.foot k ∨ w.heap.size ≤ k
theorem cut_last (d : Dsk) (keep : List Bool) (torn : Int) : (d.cut keep torn).last.length = d.last.length ∧ (d.cut keep torn).size = d.size := by
  unfold Dsk.cut
  split
  · exact ⟨rfl, rfl⟩
  · exact ⟨applyW_length _ _, rfl⟩
/-- Behind Cut. -/
theorem cut_state {w w1 : World} {base : Nat} {y : Lay} {keep : List Bool} {torn : Int} (n : Next w base y (y.abs.cut keep torn) w1) : ∃ y1, CutD w base y (y.abs.cut keep torn) w1 y1 := by
  obtain ⟨y1, h1, h2, h3, h4, h5⟩ := n
  obtain ⟨c1, c2⟩ := cut_last y.abs keep torn
  exact ⟨y1, h1, h2, h3, (congrArg Dsk.size h2).trans c2, Lay.last_len h2 c1, h4, h5⟩
/-- And behind On. -/
theorem on_state {w w1 w2 : World} {base : Nat} {y y1 : Lay} {d : Dsk} (c : CutD w base y d w1 y1) (h : DiskOK w2 base { y1 with off := false }) (k : Kept y1.foot w1 w2) : CutD w base y d.on w2 { y1 with off := false } := by
  have hs := c.kept.size
  refine ⟨h, ?_, c.D, c.size, c.len, c.kept.far k c.foot, fun k hk => c.foot k hk⟩
  rw [← c.abs]
  rfl
/-- What was handed in, apart from all that the call made. -/
theorem rv_far {w w' : World} {F : Nat → Prop} {A : Option Addr} {vs : List Value} (h : RV w A vs) (b : Below w.heap.size w w') (hF : ∀ k, F k → w.heap.size ≤ k) : RVF w' F A vs := fun hne => by
  obtain ⟨g, off, e, h1, h2⟩ := h hne
  exact ⟨g, off, e, Nat.lt_of_lt_of_le h1 b.size, fun q => by have := hF g q; omega, fun j v hj => (b.cell (p := ⟨g, off + j, none⟩) h1).trans (h2 j v hj)⟩
/-- What a store that was opened behind a cut tells of a name. -/
def ToldN (s : SP) (n : Nm) : Prop := ∃ x, s.st.sl n = some x ∧ getR s.d (x.at_ : Int) = (0, 83, (x.mark : Int), byF n, 1) ∧ x.len = (byF n).length
section
variable {i lasts k : Nat} {s s2 : SP} {l : List StoreP.Act} {sl gone la : List Nm} {keep : List Bool} {torn : Int}
/-- What is there was put. -/
theorem behind_names (hK : KeepP i s l lasts sl gone la) (hO : OpenedP byF l ((s.d.cut keep torn).on) 1 2 k s2) {n : Nm} {x : Slot} (hx : s2.st.sl n = some x) : n ∈ sl ∧ ToldN s2 n := by
  obtain ⟨h1, h2⟩ := (hO.sl n x).1 hx
  have hp : StoreP.Act.put n x ∈ l := List.mem_of_mem_take (run_put h1)
  exact ⟨(hK.put_in n x hp).1, x, hx, hO.behind.ok_bytes hp h2, (hO.behind.range n x hp).2.2⟩
/-- What lasted and wasn't dropped is there. -/
theorem behind_lasts (hK : KeepP i s l lasts sl gone la) (hi : i ≤ 40) (hO : OpenedP byF l ((s.d.cut keep torn).on) 1 2 k s2) (hk : lasts ≤ k) {n : Nm} (hn : n ∈ la) (hg : n ∉ gone) : ToldN s2 n := by
  obtain ⟨x, hx⟩ := hK.last_in n hn
  have hpu := hK.puts
  obtain ⟨r1, r2⟩ := hK.k.lasting hx (fun h => hg (hK.gone_in n h)) hk
  have hp : StoreP.Act.put n x ∈ l := List.mem_of_mem_take hx
  have ht := (hK.k.cut (by omega) (fun n => by have := byF_len n; omega) keep torn).2 n x hx r1
  have hr := hO.behind.range n x hp
  have ho : okB s2.d x := hO.behind.stands hp ((hO.told x.at_ hr.1).trans ht)
  exact ⟨x, (hO.sl n x).2 ⟨r2, ho⟩, hO.behind.ok_bytes hp ho, hr.2.2⟩
end
/-- Get of such a name. -/
theorem told_get {σ : StoL} {s : SP} {w : World} {base : Nat} (h : StoOK w base σ s) (hT : Tab w) {n : Nm} (hn : okN n) (hd : ToldN s n) :
    Calls Tryz.prog 11 #[.pointer (some ⟨σ.B, 0, none⟩), .agg #[.int .i64 (n.1 : Int), .int .i64 (n.2 : Int)]] w fun e w' => ∃ A c, e = .returned (.tuple #[.slice A (byF n).length c, .int .i64 0]) ∧ w'.ownsRow w.heap.size 5 1 (.slice A (byF n).length c) (byF n).length (cB (byF n)) ∧ Below w.heap.size w w' := by
  obtain ⟨x, hx, hg, hlen⟩ := hd
  refine (get_calls σ s n hn w base h hT (fun y hy => ?_)).mono ?_
  · obtain rfl := Option.some.inj (hx.symm.trans hy)
    rw [hg]
    show (0 : Int) ≠ 10
    decide
  · rintro e w' hq
    unfold RetGetS at hq
    rw [hx] at hq
    have hq2 : TellsQ (getR s.d (x.at_ : Int)) x w e w' := hq
    rw [hg] at hq2
    obtain ⟨b, ⟨_, A, c, rfl, own⟩ | ⟨hno, _⟩⟩ := hq2
    · exact ⟨A, c, rfl, own, b⟩
    · exact absurd ⟨rfl, rfl, rfl, hlen.symm⟩ hno
end Go.Proofs.YtendnkklbeiegaaGreatDoor
namespace Go.Proofs.YtendnkklbeiegaaGreatDoor
open Go.RowKit Go.Maps StoreP JourP DiskP PageP

theorem Glob.up {w w' : World} {base b' : Nat} (h : Glob w base) (b : Below base w w') (hb : base ≤ b') : Glob w' b' := by
  have h1 := h.below b
  exact ⟨h1.tab, h1.pow, h1.len, Nat.lt_of_lt_of_le h1.low hb⟩
/-- '!=' of two texts that are alike. -/
theorem RB.str {w : World} {A : Option Addr} {c : Nat} {bs : List UInt8} {N : Nat} (own : w.ownsRow N 5 1 (.slice A bs.length c) bs.length (cB bs)) {w' : World} (b : Below w.heap.size w w') : (convert 42 9 (.slice A bs.length c)).run Tryz.prog w' = .ok (.string (bstr bs)) w' :=
  run_str w' 42 5 9 Tryz.underlying42 Tryz.underlying5 Tryz.underlying9 A bs bs.length c ((RV.of_own own).below b) rfl
set_option maxRecDepth 100000 in
set_option maxHeartbeats 3200000 in
theorem topLasts_walk (w : World) (l0 : List KeepA) (A0 : Option Addr) (c0 : Nat) (hl0 : l0.length ≤ 9223372036854775807) (hok0 : ∀ x ∈ l0, x.ok) (hR : RV w A0 (kC l0)) (kp : List Bool) (Ak : Option Addr) (ck : Nat) (hkl : kp.length ≤ 9223372036854775807) (hK : RV w Ak (cL kp)) (torn : Int) (hG : Glob w w.heap.size) :
    Calls Tryz.prog 3 #[.slice A0 l0.length c0, .agg #[.slice Ak kp.length ck, .int .i64 torn]] w fun e w' => e = .returned (.bool true) ∧ Below w.heap.size w w' := by
  have AC := fun w' => Al.alive_calls w'
  have B1 : Below w.heap.size w (w.alloc (.cells #[.slice Ak kp.length ck, .int .i64 torn] 25)) := (Below.refl _ _).alloc (Nat.le_refl _) _
  have bk := Blk.new w 25 #[.slice Ak kp.length ck, .int .i64 torn]
  by_cases h40 : 40 < l0.length
  · have d1 : decide ((40 : Int) < (l0.length : Int)) = true := decide_eq_true (by omega)
    have d1' : decide (40 < l0.length) = true := decide_eq_true h40
    have HB := Lib.hid B1
    clear B1 bk hR hK hG hok0
    go_enter Tryz.func3, Tryz.ntmps3
    go_wp2_with (go_at_call 5; (with_reducible refine (AC _).mono ?_); rintro e w3 ⟨rfl, b3⟩)
    go_ret
    exact ⟨rfl, HB.out.trans (b3.mono HB.out.size)⟩
  have d1 : decide ((40 : Int) < (l0.length : Int)) = false := decide_eq_false (by omega)
  have d1' : decide (40 < l0.length) = false := decide_eq_false h40
  by_cases h300 : 300 < kp.length
  · have d2 : decide ((300 : Int) < (kp.length : Int)) = true := decide_eq_true (by omega)
    have d2' : decide (300 < kp.length) = true := decide_eq_true h300
    have HB := Lib.hid B1
    clear B1 hR hK hG hok0
    go_enter Tryz.func3, Tryz.ntmps3
    go_wp2_with (go_at_call 5; (with_reducible refine (AC _).mono ?_); rintro e w3 ⟨rfl, b3⟩)
    go_ret
    exact ⟨rfl, HB.out.trans (b3.mono HB.out.size)⟩
  have d2 : decide ((300 : Int) < (kp.length : Int)) = false := decide_eq_false (by omega)
  have d2' : decide (300 < kp.length) = false := decide_eq_false h300
  go_enter Tryz.func3, Tryz.ntmps3
  go_upto_region 1 with fail
  revert B1 bk
  generalize w.alloc (.cells #[.slice Ak kp.length ck, .int .i64 torn] 25) = w1
  intro B1 bk
  obtain ⟨gW, hgW⟩ : ∃ g, g = w.heap.size := ⟨_, rfl⟩
  have bk' := bk
  rw [← hgW] at bk' ⊢
  clear hgW
  have hG1 : Glob w1 w1.heap.size := hG.up B1 B1.size
  have k0 : w1.cell? ⟨gW, 0, none⟩ = some (.slice Ak kp.length ck) := bk'.at_ rfl
  have KC := keep_calls l0 A0 c0 (by omega) hok0 w1 hG1 (hR.below B1)
  clear hok0
  go_upto_region 6 with (go_at_call 6; (with_reducible refine KC.mono ?_); rintro e w2 ⟨K, D, B, rfl, hW2⟩)
  clear KC k0 d1 d1' d2 d2'
  obtain ⟨σ, s, l, lasts, v, L, mk, hM, hP, _⟩ := hW2
  have B2 : Below w1.heap.size w1 w2 := hM.bel
  have Bw2 : Below w.heap.size w w2 := B1.trans (B2.mono B1.size)
  have hG2 : Glob w2 w1.heap.size := hG1.below B2
  have dk2 : DiskOK w2 w1.heap.size σ.j.y := hM.ok.lg.ok.dk
  have ab2 : σ.j.y.abs = s.d := hM.ok.dk
  have bk2 := bk'.below B2 bk'.lt
  have q0 : w2.cell? ⟨K, 0, none⟩ = some (.pointer (some ⟨D, 0, none⟩)) := hM.bx.at_ (i := 0) rfl
  have q1 : w2.cell? ⟨gW, 0, none⟩ = some (.slice Ak kp.length ck) := bk2.at_ rfl
  have q2 : w2.cell? ⟨gW, 1, none⟩ = some (.int .i64 torn) := bk2.at_ rfl
  have hwl := hM.ok.wl
  have hwt := hP.wait
  have CC := cut_calls σ.j.y kp Ak ck torn w2.drew w1.heap.size (dk2.below (Below.refl _ w2).drew) (by omega) hkl (rv_far hK Bw2.drew fun k hk => Nat.le_trans B1.size (dk2.foot_lt hk).1)
  rw [hM.eD] at CC
  have HM := Lib.hid (And.intro hM hP)
  clear hM hP hwl hwt bk bk' hR hK
  go_still_tail 8, (by kernel_rfl)
  change wpList _ _ _ _ _ w2.drew
  go_upto_region 7 with (go_at_call 7; (with_reducible refine CC.mono ?_); rintro e w3 ⟨rfl, N3⟩)
  obtain ⟨y1, c1⟩ := cut_state N3
  obtain ⟨hM, hP⟩ := HM.out
  have nfoot : ∀ k, σ.j.y.foot k → σ.all k := fun k hk => ⟨.log, .inr (.inr hk)⟩
  have bx3 : Blk w3 K 34 (keptC D B v mk) := (c1.kept.block K hM.bx.lt fun q => hM.apK (nfoot K q)).trans hM.bx
  have q3 : w3.cell? ⟨K, 0, none⟩ = some (.pointer (some ⟨D, 0, none⟩)) := bx3.at_ (i := 0) rfl
  have eD1 : y1.D = D := c1.D.trans hM.eD
  have OnC : Calls Tryz.prog 8 #[.pointer (some ⟨D, 0, none⟩)] w3 fun e w' => e = .returned (.tuple #[]) ∧ DiskOK w' w1.heap.size { y1 with off := false } ∧ Kept y1.foot w3 w' := by
    rw [← eD1]
    exact on_calls y1 w3 w1.heap.size c1.ok
  clear eD1
  have HC1 := Lib.hid c1
  clear hM hP bx3 N3 c1 q0 q1 q2 CC bk2
  go_upto_region 8 with (go_at_call 8; (with_reducible refine OnC.mono ?_); rintro e w4 ⟨rfl, ok4, k4⟩)
  have c2 := on_state HC1.out ok4 k4
  obtain ⟨y2, hy2⟩ : ∃ y2 : Lay, y2 = { y1 with off := false } := ⟨_, rfl⟩
  rw [← hy2] at c2
  obtain ⟨hM, hP⟩ := HM.out
  have hb2 : w1.heap.size ≤ w2.heap.size := B2.size
  have B24 : Below w1.heap.size w2 w4 := (Kept.of_below (Below.refl _ w2).drew σ.j.y.foot).trans c2.kept |>.below (fun k _ hk => (dk2.foot_lt hk).1) hb2
  have keep4 : ∀ k, k < w2.heap.size → ¬ σ.all k → w4.heap[k]? = w2.heap[k]? := fun k hk hn => c2.kept.block k hk fun q => hn (nfoot k q)
  have bx4 : Blk w4 K 34 (keptC D B v mk) := (keep4 K hM.bx.lt hM.apK).trans hM.bx
  have q4 : w4.cell? ⟨K, 0, none⟩ = some (.pointer (some ⟨D, 0, none⟩)) := bx4.at_ (i := 0) rfl
  have hG4 : Glob w4 w1.heap.size := hG2.below B24
  have hb4 : w1.heap.size ≤ w4.heap.size := Nat.le_trans hb2 B24.size
  have OC := sopen_cut hP (by omega) hM.ok.invS kp torn y2 w4 w1.heap.size c2.ok (by rw [c2.abs, ab2]) (c2.len.trans hM.ok.ll) (c2.size.trans hM.ok.sz) hG4 hb4
  rw [c2.D, hM.eD] at OC
  have HC2 := Lib.hid (And.intro c2 (And.intro B24 keep4))
  clear hM hP bx4 c2 B24 keep4 hy2 ok4 k4 OnC q3 HC1
  go_upto_region 9 with (go_at_call 9; (with_reducible refine OC.mono ?_); rintro e w5 ⟨σ2, s2, k, rfl, h5, hO, hk, hkl2, _, _, K5, f5⟩)
  obtain ⟨hM, hP⟩ := HM.out
  obtain ⟨c2, B24, keep4⟩ := HC2.out
  have hz24 := B24.size
  have keep5 : ∀ k, k < w2.heap.size → ¬ σ.all k → w5.heap[k]? = w2.heap[k]? := fun k hk hn => (K5.block k (by omega) fun q => (c2.foot k q).elim (fun q => hn (nfoot k q)) fun q => by have q' : w2.heap.size ≤ k := q; omega).trans (keep4 k hk hn)
  have B45 : Below w1.heap.size w4 w5 := K5.below (fun k _ hk => (c2.ok.foot_lt hk).1) hb4
  have Bw5 : Below w.heap.size w w5 := Bw2.trans ((B24.trans B45).mono B1.size)
  have hG5 : Glob w5 w1.heap.size := hG4.below B45
  have bx5 : Blk w5 K 34 (keptC D B v mk) := (keep5 K hM.bx.lt hM.apK).trans hM.bx
  have rows5 : ∀ q, w5.ownsRow w1.heap.size 40 2 (v q) (L q).length (eC (L q)) := fun q => own_frame (hM.rows q) fun k hk => keep5 k ((hM.rows q).lt k hk).2 (hM.apR q k hk).1
  obtain ⟨AL, cL, hvl, _, _⟩ := own_form (rows5 .l)
  obtain ⟨AG, cG, hvg, _, _⟩ := own_form (rows5 .g)
  obtain ⟨AS, cS, hvs, _, _⟩ := own_form (rows5 .s)
  have c5l : w5.cell? ⟨K, 5, none⟩ = some (v .l) := bx5.at_ (i := 5) rfl
  have c5g : w5.cell? ⟨K, 3, none⟩ = some (v .g) := bx5.at_ (i := 3) rfl
  have c5s : w5.cell? ⟨K, 2, none⟩ = some (v .s) := bx5.at_ (i := 2) rfl
  have rl := rows5 .l
  have rg := rows5 .g
  have rs := rows5 .s
  rw [hvl] at c5l rl
  rw [hvg] at c5g rg
  rw [hvs] at c5s rs
  have rvL : RV w5 AL (eC (L .l)) := (rvf_ofk (F := fun _ => False) rl fun _ q => q.elim).rv
  have rvG : RV w5 AG (eC (L .g)) := (rvf_ofk (F := fun _ => False) rg fun _ q => q.elim).rv
  have rvS : RV w5 AS (eC (L .s)) := (rvf_ofk (F := fun _ => False) rs fun _ q => q.elim).rv
  have lL := hP.lla
  have lG := hP.lgone
  have lS := hP.lsl
  have lk := hP.len
  have sL := hP.la_small
  have hO' : OpenedP byF l ((s.d.cut kp torn).on) 1 2 k s2 := by have := hO; rw [c2.abs, ab2] at this; exact this
  have HL : Hid (∀ n, n ∈ L .l → n ∉ L .g → ToldN s2 n) := fun n hn hg => behind_lasts hP (by omega) hO' (hk trivial) hn hg
  have HN : Hid (∀ n x, s2.st.sl n = some x → n ∈ L .s ∧ ToldN s2 n) := fun n x hx => behind_names hP hO' hx
  have hS : ∀ n ∈ L .s, ok7 n := hP.small
  have hmany := hO.many
  have HBw5 := Lib.hid Bw5
  have NG : Hid (∀ (n : Nm) (W' : World), Below w5.heap.size w5 W' → Calls Tryz.prog 10 #[.slice AG (L .g).length cG, .agg #[.int .i64 (n.1 : Int), .int .i64 (n.2 : Int)]] W' fun e w' => e = .returned (.bool (decide (n ∈ L .g))) ∧ Below W'.heap.size W' w') := fun n W' q => named_calls (L .g) n AG cG W' (rvG.below q) (by omega)
  have NS : Hid (∀ (n : Nm) (W' : World), Below w5.heap.size w5 W' → Calls Tryz.prog 10 #[.slice AS (L .s).length cS, .agg #[.int .i64 (n.1 : Int), .int .i64 (n.2 : Int)]] W' fun e w' => e = .returned (.bool (decide (n ∈ L .s))) ∧ Below W'.heap.size W' w') := fun n W' q => named_calls (L .s) n AS cS W' (rvS.below q) (by omega)
  have GC : Hid (∀ (n : Nm) (W' : World), Below w5.heap.size w5 W' → ok7 n → ToldN s2 n → Calls Tryz.prog 11 #[.pointer (some ⟨σ2.B, 0, none⟩), .agg #[.int .i64 (n.1 : Int), .int .i64 (n.2 : Int)]] W' fun e w' => ∃ A c, e = .returned (.tuple #[.slice A (byF n).length c, .int .i64 0]) ∧ w'.ownsRow W'.heap.size 5 1 (.slice A (byF n).length c) (byF n).length (cB (byF n)) ∧ Below W'.heap.size W' w') := fun n W' q hn ht => told_get (h5.below q) (hG5.tab.below q) ⟨by have := hn.1; omega, by have := hn.2; omega⟩ ht
  have BY : Hid (∀ (n : Nm) (W' : World), ok7 n → Calls Tryz.prog 12 #[.int .i64 (n.1 : Int), .int .i64 (n.2 : Int)] W' (RetBy W' (byF n))) := fun n W' hn => bytes_top_calls n.1 n.2 W' (by have := hn.1; omega) (by have := hn.2; omega)
  have CK : Hid (∀ W', Below w5.heap.size w5 W' → W'.cell? ⟨K, 3, none⟩ = some (.slice AG (L .g).length cG) ∧ W'.cell? ⟨K, 2, none⟩ = some (.slice AS (L .s).length cS)) := fun W' q => ⟨cell_bel q c5g, cell_bel q c5s⟩
  have H5 := Lib.hid (And.intro h5 (And.intro hO (And.intro hP hmany)))
  have hll : (L .l).length ≤ 2000 := by omega
  have hlk : l.length ≤ 40 := by omega
  clear hM hP HM c2 HC2 keep5 keep4 B45 B24 Bw5 bx5 rows5 hvl hvg hvs rl rg rs rvG rvS hO hO' hk K5 f5 nfoot OC q4 c5g c5s h5 lL lG lS lk hmany hG4 hG5 hG2 hG1 hG dk2 ab2 Bw2 B2 B1 hb2 hb4 hkl hz24
  go_wp2_with fail
  clear c5l
  generalize (L .l) = LL at *
  go_loopw [67] (fun i wr => ∃ m : Nat, m ≤ LL.length ∧ i = .int .i64 (m : Int) ∧ Below w5.heap.size w5 wr) (fun i _ => LL.length - (intOf i).toNat)
  case atStart => exact ⟨0, Nat.zero_le _, rfl, Below.refl _ _⟩
  case round =>
    obtain ⟨m, hm, rfl, bel⟩ := hrel
    by_cases hlt : m < LL.length
    · have dec : decide ((m : Int) < (LL.length : Int)) = true := decide_eq_true (by omega)
      have dec' : decide (m < LL.length) = true := decide_eq_true hlt
      have hqi : (m : Int) < (LL.length : Int) := by omega
      obtain ⟨n, hn⟩ : ∃ n, LL[m]? = some n := ⟨_, List.getElem?_eq_getElem hlt⟩
      have hnm := List.mem_of_getElem? hn
      have hn7 := sL n hnm
      obtain ⟨g, off, rfl, hg, y0, y1⟩ := ex_elem (rvL.below bel) hn
      have xk := Blk.new wr 40 #[.int .i64 (n.1 : Int), .int .i64 (n.2 : Int)]
      have B6 : Below wr.heap.size wr (wr.alloc (.cells #[.int .i64 (n.1 : Int), .int .i64 (n.2 : Int)] 40)) := (Below.refl _ _).alloc (Nat.le_refl _) _
      have Hlt := Lib.hid hlt
      have Hnm := Lib.hid hnm
      have Hbel := Lib.hid bel
      clear hn hnm hlt bel rvL sL
      go_upto_region 14 with fail
      clear y0 y1 dec dec' hqi
      revert xk B6
      generalize wr.alloc (.cells #[.int .i64 (n.1 : Int), .int .i64 (n.2 : Int)] 40) = w6
      intro xk B6
      have b56 : Below w5.heap.size w5 w6 := Hbel.out.trans (B6.mono Hbel.out.size)
      have x0 : w6.cell? ⟨wr.heap.size, 0, none⟩ = some (.int .i64 (n.1 : Int)) := xk.at_ rfl
      have x1 : w6.cell? ⟨wr.heap.size, 1, none⟩ = some (.int .i64 (n.2 : Int)) := xk.at_ rfl
      have cg := (CK.out w6 b56).1
      have NC := NG.out n w6.drew b56.drew
      have HX : Hid (∀ W', Below w6.heap.size w6 W' → W'.cell? ⟨wr.heap.size, 0, none⟩ = some (.int .i64 (n.1 : Int)) ∧ W'.cell? ⟨wr.heap.size, 1, none⟩ = some (.int .i64 (n.2 : Int))) := fun W' q => ⟨cell_bel q x0, cell_bel q x1⟩
      have Hb56 := Lib.hid b56
      clear xk B6 b56
      go_still_tail 5, (by kernel_rfl)
      change wpList _ _ _ _ _ w6.drew
      by_cases hgn : n ∈ L .g
      · rw [decide_eq_true hgn] at NC
        clear hgn
        go_wp2_with (go_at_call 10; (with_reducible refine NC.mono ?_); rintro e w7 ⟨rfl, B7⟩)
        have HB : Hid (Below w5.heap.size w5 w7) := Hb56.out.drew.trans (B7.mono Hb56.out.size)
        clear B7
        go_roundw
        case rel => exact ⟨m + 1, by have := Hlt.out; omega, by go_num, HB.out⟩
        case measure => have := Hlt.out; simp [intOf]; omega
      · rw [decide_eq_false hgn] at NC
        have ht := Lib.hid (HL.out n Hnm.out hgn)
        clear hgn
        have GC7 : Hid (∀ W', Below w6.heap.size w6 W' → (W'.cell? ⟨wr.heap.size, 0, none⟩ = some (.int .i64 (n.1 : Int)) ∧ W'.cell? ⟨wr.heap.size, 1, none⟩ = some (.int .i64 (n.2 : Int))) ∧ Calls Tryz.prog 11 #[.pointer (some ⟨σ2.B, 0, none⟩), .agg #[.int .i64 (n.1 : Int), .int .i64 (n.2 : Int)]] W' fun e w' => ∃ A c, e = .returned (.tuple #[.slice A (byF n).length c, .int .i64 0]) ∧ w'.ownsRow W'.heap.size 5 1 (.slice A (byF n).length c) (byF n).length (cB (byF n)) ∧ Below W'.heap.size W' w') := fun W' q => ⟨HX.out W' q, GC.out n W' (Hb56.out.trans (q.mono Hb56.out.size)) hn7 ht.out⟩
        go_upto_region 16 with (first
          | (go_at_call 10; (with_reducible refine NC.mono ?_); rintro e w7 ⟨rfl, B7z⟩; have B7 : Below w6.heap.size w6 w7 := ⟨B7z.os, B7z.tape, B7z.output, B7z.size, B7z.block⟩; obtain ⟨⟨x70, x71⟩, GCC⟩ := GC7.out w7 B7)
          | (go_at_call 11; (with_reducible refine GCC.mono ?_); rintro e w8 ⟨A8, c8, rfl, own8, B8⟩))
        have b78 : Below w6.heap.size w6 w8 := B7.trans (B8.mono B7.size)
        have H8 := Lib.hid (Hb56.out.trans (b78.mono Hb56.out.size))
        have BC := BY.out n w8.drew hn7
        have HX8 : Hid (∀ W', Below w8.heap.size w8 W' → W'.cell? ⟨wr.heap.size, 0, none⟩ = some (.int .i64 (n.1 : Int)) ∧ W'.cell? ⟨wr.heap.size, 1, none⟩ = some (.int .i64 (n.2 : Int))) := fun W' q => HX.out W' (b78.trans (q.mono b78.size))
        have Hcv : Hid (∀ w', Below w8.heap.size w8 w' → (convert 42 9 (.slice A8 (byF n).length c8)).run Tryz.prog w' = .ok (.string (bstr (byF n))) w') := fun w' q => RB.str own8 q
        clear own8 B8 b78 B7 B7z GCC GC7 NC ht Hnm
        generalize byF n = bs at BC Hcv ⊢
        have eqb : ((bstr bs).toList == (bstr bs).toList) = true := by simp
        have s8 := Hcv.out w8 (Below.refl _ _)
        have s8d := Hcv.out w8.drew (Below.refl _ w8).drew
        obtain ⟨x80, x81⟩ := HX8.out w8 (Below.refl _ _)
        go_cut [95] from 83 to 95 (fun v wx => v = .bool false ∧ Below w8.heap.size w8 wx)
        case first =>
          have HS9 : Hid (∀ W', Below w8.heap.size w8 W' → W'.cell? ⟨wr.heap.size, 0, none⟩ = some (.int .i64 (n.1 : Int)) ∧ W'.cell? ⟨wr.heap.size, 1, none⟩ = some (.int .i64 (n.2 : Int)) ∧ (convert 42 9 (.slice A8 bs.length c8)).run Tryz.prog W' = .ok (.string (bstr bs)) W') := fun W' q => ⟨(HX8.out W' q).1, (HX8.out W' q).2, Hcv.out W' q⟩
          have f8 := HS9.out w8 (Below.refl _ _)
          have f8d := HS9.out w8.drew (Below.refl _ w8).drew
          go_region_held (fun wq => wq.cell? ⟨wr.heap.size, 0, none⟩ = some (.int .i64 (n.1 : Int)) ∧ wq.cell? ⟨wr.heap.size, 1, none⟩ = some (.int .i64 (n.2 : Int)) ∧ (convert 42 9 (.slice A8 bs.length c8)).run Tryz.prog wq = .ok (.string (bstr bs)) wq) (first | (with_reducible exact f8) | (with_reducible exact f8d) | (with_reducible exact f9)) (first | (go_at_call 12; (with_reducible refine BC.mono ?_); rintro e w9 ⟨A9, c9, rfl, own9, B9z⟩; have B9 : Below w8.heap.size w8 w9 := ⟨B9z.os, B9z.tape, B9z.output, B9z.size, B9z.block⟩; have f9 := HS9.out w9 B9; have s9b := RB.str own9 (Below.refl _ w9)))
          all_goals
            go_wp2_with fail
            go_meet
            exact ⟨rfl, B9⟩
        case rest =>
          obtain ⟨rfl, B10⟩ := hcut
          have HB : Hid (Below w5.heap.size w5 wc) := H8.out.trans (B10.mono H8.out.size)
          clear B10 s8 s8d x80 x81 BC eqb
          go_wp2_with fail
          go_roundw
          case rel => exact ⟨m + 1, by have := Hlt.out; omega, by go_num, HB.out⟩
          case measure => have := Hlt.out; simp [intOf]; omega
    · have dec : decide ((m : Int) < (LL.length : Int)) = false := decide_eq_false (by omega)
      have dec' : decide (m < LL.length) = false := decide_eq_false hlt
      obtain ⟨h5, hO, hP, hmany⟩ := H5.out
      have hokN : ∀ n, (s2.st.sl n).isSome = true → okN n := fun n hn => by
        obtain ⟨x, hx⟩ := Option.isSome_iff_exists.1 hn
        have h7 := hS n (HN.out n x hx).1
        exact ⟨by have := h7.1; omega, by have := h7.2; omega⟩
      have NM := names_calls σ2 s2 wr w1.heap.size (h5.below bel) hokN (by omega)
      have hcn := h5.cnt
      clear h5 hO hP hokN rvL sL HL NG hlt hll
      go_wp2_with (go_at_call 13; (with_reducible refine NM.mono ?_); rintro e w7 ⟨A7, c7, ss, rfl, hL, _, hssl, own7, B7⟩)
      have rvN : RV w7 A7 (eC ss) := (rvf_ofk (F := fun _ => False) own7 fun _ q => q.elim).rv
      have b57 : Below w5.heap.size w5 w7 := bel.trans (B7.mono bel.size)
      have hss : ss.length ≤ 1000 := by omega
      have Hb57 := Lib.hid b57
      clear NM own7 B7 bel b57 hssl hcn dec dec' hmany
      go_loopw [100] (fun i wr => ∃ m : Nat, m ≤ ss.length ∧ i = .int .i64 (m : Int) ∧ Below w7.heap.size w7 wr) (fun i _ => ss.length - (intOf i).toNat)
      case atStart => exact ⟨0, Nat.zero_le _, rfl, Below.refl _ _⟩
      case round =>
        obtain ⟨m, hm, rfl, bel⟩ := hrel
        by_cases hlt : m < ss.length
        · have dec : decide ((m : Int) < (ss.length : Int)) = true := decide_eq_true (by omega)
          have dec' : decide (m < ss.length) = true := decide_eq_true hlt
          have hqi : (m : Int) < (ss.length : Int) := by omega
          obtain ⟨n, hn⟩ : ∃ n, ss[m]? = some n := ⟨_, List.getElem?_eq_getElem hlt⟩
          obtain ⟨x, hx⟩ := Option.isSome_iff_exists.1 ((hL.2 n).1 (List.mem_of_getElem? hn))
          obtain ⟨hnS, ht⟩ := HN.out n x hx
          have hn7 := hS n hnS
          obtain ⟨g, off, rfl, hg, y0, y1⟩ := ex_elem (rvN.below bel) hn
          have xk := Blk.new wr 40 #[.int .i64 (n.1 : Int), .int .i64 (n.2 : Int)]
          have B6 : Below wr.heap.size wr (wr.alloc (.cells #[.int .i64 (n.1 : Int), .int .i64 (n.2 : Int)] 40)) := (Below.refl _ _).alloc (Nat.le_refl _) _
          have Hlt := Lib.hid hlt
          have HnS := Lib.hid hnS
          have Ht := Lib.hid ht
          have Hbel := Lib.hid bel
          clear hn hx hlt bel rvN hnS ht hL
          go_upto_region 22 with fail
          clear y0 y1 dec dec' hqi
          revert xk B6
          generalize wr.alloc (.cells #[.int .i64 (n.1 : Int), .int .i64 (n.2 : Int)] 40) = w6
          intro xk B6
          have b76 : Below w7.heap.size w7 w6 := Hbel.out.trans (B6.mono Hbel.out.size)
          have b56 : Below w5.heap.size w5 w6 := Hb57.out.trans (b76.mono Hb57.out.size)
          have x0 : w6.cell? ⟨wr.heap.size, 0, none⟩ = some (.int .i64 (n.1 : Int)) := xk.at_ rfl
          have x1 : w6.cell? ⟨wr.heap.size, 1, none⟩ = some (.int .i64 (n.2 : Int)) := xk.at_ rfl
          have GCC := GC.out n w6 b56 hn7 Ht.out
          have HX : Hid (∀ W', Below w6.heap.size w6 W' → W'.cell? ⟨wr.heap.size, 0, none⟩ = some (.int .i64 (n.1 : Int)) ∧ W'.cell? ⟨wr.heap.size, 1, none⟩ = some (.int .i64 (n.2 : Int))) := fun W' q => ⟨cell_bel q x0, cell_bel q x1⟩
          have H6 := Lib.hid (And.intro b76 b56)
          clear xk B6 b56 b76
          go_upto_region 23 with (go_at_call 11; (with_reducible refine GCC.mono ?_); rintro e w8 ⟨A8, c8, rfl, own8, B8⟩)
          have b78 : Below w7.heap.size w7 w8 := H6.out.1.trans (B8.mono H6.out.1.size)
          have b58 : Below w5.heap.size w5 w8 := H6.out.2.trans (B8.mono H6.out.2.size)
          have H8 := Lib.hid b78
          have BC := fun w' => BY.out n w' hn7
          have NC : ∀ w', Below w8.heap.size w8 w' → Calls Tryz.prog 10 #[.slice AS (L .s).length cS, .agg #[.int .i64 (n.1 : Int), .int .i64 (n.2 : Int)]] w' fun e w'' => e = .returned (.bool true) ∧ Below w'.heap.size w' w'' := fun w' q => by
            have := NS.out n w' (b58.trans (q.mono b58.size))
            rw [decide_eq_true HnS.out] at this
            exact this
          have HX8 : Hid (∀ W', Below w8.heap.size w8 W' → (W'.cell? ⟨wr.heap.size, 0, none⟩ = some (.int .i64 (n.1 : Int)) ∧ W'.cell? ⟨wr.heap.size, 1, none⟩ = some (.int .i64 (n.2 : Int))) ∧ W'.cell? ⟨K, 2, none⟩ = some (.slice AS (L .s).length cS)) := fun W' q => ⟨HX.out W' (B8.trans (q.mono B8.size)), (CK.out W' (b58.trans (q.mono b58.size))).2⟩
          have Hcv : Hid (∀ w', Below w8.heap.size w8 w' → (convert 42 9 (.slice A8 (byF n).length c8)).run Tryz.prog w' = .ok (.string (bstr (byF n))) w') := fun w' q => RB.str own8 q
          have HNC := Lib.hid NC
          clear own8 B8 b78 b58 GCC NC x0 x1
          generalize byF n = bs at BC Hcv ⊢
          have eqb : ((bstr bs).toList == (bstr bs).toList) = true := by simp
          have s8 := Hcv.out w8 (Below.refl _ _)
          have s8d := Hcv.out w8.drew (Below.refl _ w8).drew
          obtain ⟨⟨x80, x81⟩, x82⟩ := HX8.out w8 (Below.refl _ _)
          have HS9 : Hid (∀ W', Below w8.heap.size w8 W' → W'.cell? ⟨wr.heap.size, 0, none⟩ = some (.int .i64 (n.1 : Int)) ∧ W'.cell? ⟨wr.heap.size, 1, none⟩ = some (.int .i64 (n.2 : Int)) ∧ W'.cell? ⟨K, 2, none⟩ = some (.slice AS (L .s).length cS) ∧ (convert 42 9 (.slice A8 bs.length c8)).run Tryz.prog W' = .ok (.string (bstr bs)) W') := fun W' q => ⟨(HX8.out W' q).1.1, (HX8.out W' q).1.2, (HX8.out W' q).2, Hcv.out W' q⟩
          go_cut [131] from 110 to 131 (fun v wx => v = .bool false ∧ Below w8.heap.size w8 wx)
          case first =>
            have f8 := HS9.out w8 (Below.refl _ _)
            have f8d := HS9.out w8.drew (Below.refl _ w8).drew
            go_region_held (fun wq => wq.cell? ⟨wr.heap.size, 0, none⟩ = some (.int .i64 (n.1 : Int)) ∧ wq.cell? ⟨wr.heap.size, 1, none⟩ = some (.int .i64 (n.2 : Int)) ∧ wq.cell? ⟨K, 2, none⟩ = some (.slice AS (L .s).length cS) ∧ (convert 42 9 (.slice A8 bs.length c8)).run Tryz.prog wq = .ok (.string (bstr bs)) wq) (first | (with_reducible exact f8) | (with_reducible exact f8d) | (with_reducible exact f9) | (with_reducible exact f10)) (first | (go_at_call 12; (with_reducible refine (BC _).mono ?_); rintro e w9 ⟨A9, c9, rfl, own9, B9z⟩; have B9 : Below w8.heap.size w8 w9 := ⟨B9z.os, B9z.tape, B9z.output, B9z.size, B9z.block⟩; have f9 := HS9.out w9 B9; have s9b := RB.str own9 (Below.refl _ w9); have NC9 := HNC.out w9 B9) | (go_at_call 10; (with_reducible refine NC9.mono ?_); rintro e w10 ⟨rfl, B10⟩; have B11 : Below w8.heap.size w8 w10 := B9.trans (B10.mono B9.size); have f10 := HS9.out w10 B11))
            all_goals
              go_wp2_with fail
              go_meet
              exact ⟨rfl, B11⟩
          case rest =>
            obtain ⟨rfl, B10⟩ := hcut
            have HB : Hid (Below w7.heap.size w7 wc) := H8.out.trans (B10.mono H8.out.size)
            clear B10 s8 s8d x80 x81 x82 BC eqb
            go_wp2_with fail
            go_roundw
            case rel => exact ⟨m + 1, by have := Hlt.out; omega, by go_num, HB.out⟩
            case measure => have := Hlt.out; simp [intOf]; omega
        · have dec : decide ((m : Int) < (ss.length : Int)) = false := decide_eq_false (by omega)
          have dec' : decide (m < ss.length) = false := decide_eq_false hlt
          have HB : Hid (Below w.heap.size w wr) := HBw5.out.trans ((Hb57.out.trans (bel.mono Hb57.out.size)).mono HBw5.out.size)
          clear bel rvN hL hlt
          go_wp2_with (go_at_call 5; (with_reducible refine (AC _).mono ?_); rintro e w9 ⟨rfl, b9⟩)
          go_ret
          exact ⟨rfl, HB.out.trans (b9.mono HB.out.size)⟩
end Go.Proofs.YtendnkklbeiegaaGreatDoor
