/-
  The walk of the statements' do, where a log is turned.
-/
import Derived.Test.YtpojlchikaffhaaDoorJourDoC
namespace Go.Proofs.YtpojlchikaffhaaDoor
open Go.RowKit DiskP SumP PageP JourP

theorem rC_drop (l : List RecR) (k : Nat) : rC (l.drop k) = (rC l).drop (k * 2) := by
  induction l generalizing k with
  | nil => simp [rC]
  | cons a l ih =>
    cases k with
    | zero => simp
    | succ k =>
      rw [List.drop_succ_cons, ih k, show rC (a :: l) = a.cells ++ rC l by simp [rC], show (k + 1) * 2 = a.cells.length + k * 2 by show _ = 2 + k * 2; omega, List.drop_length_add_append]
/-- A slice from a place on. -/
theorem rv_from {w : World} {A : Option Addr} {rs : List RecR} {c cap : Nat} (h : RV w A (rC rs)) (hcap : rs.length ≤ cap) (_hc : c ≤ rs.length) : RV w (if cap = c then A else A.map fun x => x.add (c * 2)) (rC (rs.drop c)) := by
  intro hne
  have hlt : c < rs.length := by
    rcases Nat.lt_or_ge c rs.length with h1 | h1
    · exact h1
    · exact absurd (by rw [List.drop_eq_nil_of_le h1]; rfl) hne
  obtain ⟨b, off, e, hb, hcl⟩ := h (by
    intro e0
    rw [rC_drop, e0] at hne
    simp at hne)
  rw [if_neg (by omega), e]
  refine ⟨b, off + c * 2, ?_, hb, fun i v hi => ?_⟩
  · show some ((⟨b, off, none⟩ : Addr).add (c * 2)) = _
    unfold Addr.add
    split <;> simp_all
  · rw [rC_drop, List.getElem?_drop] at hi
    rw [Nat.add_assoc]
    exact hcl _ _ hi
set_option maxHeartbeats 3200000 in
set_option maxRecDepth 100000 in
theorem do_turn (j : JL) (p : PJ) (x : XL) (dlt : Int) (a : ActR) (w : World) (base : Nat) (X : Nat → Prop) (h : BothJ w base X j x p dlt) (hT : Tab w) (hbase : base ≤ w.heap.size) (hg : 0 < base) (hk : a.kind.toNat % 3 = 2) (he : p.e < 1000000) (hd1 : -1000000 ≤ dlt) (hd2 : dlt ≤ 1000000) :
    Calls Tryd.prog 19 #[.pointer (some ⟨j.G, 0, none⟩), x.val, .agg a.cells.toArray] w (RetDo w base X j dlt (p.turnS j.y.size (p.rs.drop (a.frm.toNat % (p.rs.length + 1))))) := by
  obtain ⟨a1, a2, a3, a4, a5, a6⟩ := h.asks
  obtain ⟨ak, ⟨rk, rA, rc, rb⟩, af⟩ := a
  simp only at hk
  obtain ⟨m1, m2⟩ := rem3 ak 2 hk
  have hxs := h.says
  have hX := h.ok
  have hjl : ∀ k, j.foot k → k < w.heap.size := fun k hk => (h.L.ok.foot_lt hk).2
  obtain ⟨xA, xc, xr, xl, xh, xs, xe⟩ := x
  have hb0 := ((Blk.new w 31 #[.slice xA xr.length xc, .int .i64 (xl : Int), .int .i64 xh, .int .i64 xs, .int .i64 xe]).alloc (.cells #[.int .u8 (ak.toNat : Int), .int .u8 (rk.toNat : Int), .slice rA rb.length rc, .int .u8 (af.toNat : Int)] 52)).alloc (.cells #[.slice none 0 0, .int .i64 0, .int .i64 0, .int .i64 0, .int .i64 0] 31)
  have hc0 := (Blk.new (w.alloc (.cells #[.slice xA xr.length xc, .int .i64 (xl : Int), .int .i64 xh, .int .i64 xs, .int .i64 xe] 31)) 52 #[.int .u8 (ak.toNat : Int), .int .u8 (rk.toNat : Int), .slice rA rb.length rc, .int .u8 (af.toNat : Int)]).alloc (.cells #[.slice none 0 0, .int .i64 0, .int .i64 0, .int .i64 0, .int .i64 0] 31)
  have hz0 := Blk.new ((w.alloc (.cells #[.slice xA xr.length xc, .int .i64 (xl : Int), .int .i64 xh, .int .i64 xs, .int .i64 xe] 31)).alloc (.cells #[.int .u8 (ak.toNat : Int), .int .u8 (rk.toNat : Int), .slice rA rb.length rc, .int .u8 (af.toNat : Int)] 52)) 31 #[.slice none 0 0, .int .i64 0, .int .i64 0, .int .i64 0, .int .i64 0]
  have B1 : Below w.heap.size w (((w.alloc (.cells #[.slice xA xr.length xc, .int .i64 (xl : Int), .int .i64 xh, .int .i64 xs, .int .i64 xe] 31)).alloc (.cells #[.int .u8 (ak.toNat : Int), .int .u8 (rk.toNat : Int), .slice rA rb.length rc, .int .u8 (af.toNat : Int)] 52)).alloc (.cells #[.slice none 0 0, .int .i64 0, .int .i64 0, .int .i64 0, .int .i64 0] 31)) := (((Below.refl _ _).alloc (Nat.le_refl _) _).alloc (by simp) _).alloc (by simp; omega) _
  simp only [World.size_alloc] at hc0 hz0
  have HM := Lib.hid h
  clear h
  have hs1 := B1.size
  obtain ⟨n, hn⟩ : ∃ n, xr.length = n := ⟨_, rfl⟩
  have hnp : p.rs.length = n := by rw [← hxs.rs, ← hn, List.length_map]
  obtain ⟨c, hc⟩ : ∃ c, af.toNat % (n + 1) = c := ⟨_, rfl⟩
  have hcn : c ≤ n := by have := Nat.mod_lt af.toNat (show 0 < n + 1 by omega); omega
  have haf : af.toNat ≤ 255 := by have := af.toNat_lt; omega
  have r1 : (af.toNat : Int) % ((n : Int) + 1) = (c : Int) := by rw [← hc, Int.natCast_emod]; rfl
  have r2 : (af.toNat : Int).tmod ((n : Int) + 1) = (c : Int) := by rw [Int.tmod_eq_emod_of_nonneg (by omega)]; exact r1
  have dn1 : ((n : Int) + 1 == 0) = false := by rw [beq_eq_false_iff_ne]; omega
  have dn2 : ((n : Int) + 1 = 0) = False := by simp; omega
  have hxc := hX.cap
  simp only at hxc
  rw [hn] at hxc hb0 hc0 hz0 B1
  have hc63 := hX.c63
  simp only at hc63
  have hnb : n ≤ 65536 := by omega
  obtain ⟨A2, hA2⟩ : ∃ A2, (if xc = c then xA else xA.map fun x => x.add (c * 2)) = A2 := ⟨_, rfl⟩
  have HA2 := Lib.hid hA2
  obtain ⟨m, hm⟩ : ∃ m, n - c = m := ⟨_, rfl⟩
  have Hm := Lib.hid hm
  have Hc := Lib.hid hc
  have Hn := Lib.hid hn
  have Hnp := Lib.hid hnp
  have d9i : (c : Int) ≤ (n : Int) := by omega
  show Calls Tryd.prog 19 #[.pointer (some ⟨j.G, 0, none⟩), .agg #[.slice xA xr.length xc, .int .i64 (xl : Int), .int .i64 xh, .int .i64 xs, .int .i64 xe], .agg #[.int .u8 (ak.toNat : Int), .int .u8 (rk.toNat : Int), .slice rA rb.length rc, .int .u8 (af.toNat : Int)]] w _
  rw [hn]
  clear hn hnp hc
  go_enter Tryd.func19, Tryd.ntmps19
  go_wp2_with fail
  generalize (((w.alloc (.cells #[.slice xA n xc, .int .i64 (xl : Int), .int .i64 xh, .int .i64 xs, .int .i64 xe] 31)).alloc (.cells #[.int .u8 (ak.toNat : Int), .int .u8 (rk.toNat : Int), .slice rA rb.length rc, .int .u8 (af.toNat : Int)] 52)).alloc (.cells #[.slice none 0 0, .int .i64 0, .int .i64 0, .int .i64 0, .int .i64 0] 31)) = w1 at *
  have hz1 := hz0.lt
  clear hA2 hm r1 r2 dn1 dn2 hs1 m1 m2
  have hs1 := B1.size
  have hX1 : XOK w1 (fun k => j.foot k ∨ (X k ∨ k = w.heap.size + 1 + 1)) ⟨xA, xc, xr, xl, xh, xs, xe⟩ := (hX.mono (G := fun k => j.foot k ∨ (X k ∨ k = w.heap.size + 1 + 1)) fun k hk hf => by
    rcases hf with hf | hf | hf
    · exact .inl hf
    · exact .inr hf
    · omega).below B1
  have hmn : m ≤ 65536 := by have := Hm.out; omega
  have hdl : (xr.drop c).length = m := by rw [List.length_drop, Hn.out]; exact Hm.out
  have RV1 : RV w1 A2 (rC (xr.drop c)) := by
    rw [← HA2.out]
    exact rv_from hX1.rd.rv (by rw [Hn.out]; exact hxc) (by rw [Hn.out]; exact hcn)
  have hks1 : ∀ z ∈ xr.drop c, RecOK w1 (fun k => j.foot k ∨ (X k ∨ k = w.heap.size + 1 + 1)) z := fun z hz => hX1.ks z (List.mem_of_mem_drop hz)
  have Hdl := Lib.hid hdl
  have hcc : m ≤ xc - c := by have := Hm.out; omega
  clear hdl
  go_loopw [11, 56] (fun v i wr => ∃ k : Nat, k ≤ m ∧ i = .int .i64 (k : Int) ∧ wr.ownsRow w1.heap.size 40 2 v k (rC ((xr.drop c).take k)) ∧ Below w1.heap.size w1 wr) (fun _ i _ => m - (intOf i).toNat)
  case atStart => exact ⟨0, by omega, rfl, World.ownsRow_nil _ _ _ _, Below.refl _ _⟩
  case round =>
    obtain ⟨k, hk, rfl, own, bel⟩ := hrel
    obtain ⟨AR, cR, rfl, _, _⟩ := own_form own
    by_cases hlt : k < m
    · have dec : decide ((k : Int) < (m : Int)) = true := decide_eq_true (by omega)
      have dec' : decide (k < m) = true := decide_eq_true hlt
      obtain ⟨z, hzk⟩ : ∃ z, (xr.drop c)[k]? = some z := ⟨_, List.getElem?_eq_getElem (by rw [Hdl.out]; exact hlt)⟩
      obtain ⟨g, off, hAg, hgl, x0, x1⟩ := rec_elem (RV1.below bel) hzk
      have HT : Hid (rC ((xr.drop c).take (k + 1)) = rC ((xr.drop c).take k) ++ [.int .u8 (z.kind.toNat : Int), .slice z.A z.body.length z.cap]) := by
        obtain ⟨hltm, hgm⟩ := List.getElem?_eq_some_iff.1 hzk
        show _ = _
        rw [List.take_succ_eq_append_getElem hltm, hgm, rC_append]
        simp [rC, RecR.cells]
      have hbs := bel.size
      obtain ⟨zk, zA, zc, zb⟩ := z
      simp only at x0 x1 HT
      subst hAg
      clear hzk HA2 RV1 hks1 hX1 hX hxs HM hb0 hc0 hz0
      have b8 : Below wr.heap.size wr (wr.alloc (.cells #[.int .u8 (zk.toNat : Int), .slice zA zb.length zc] 38)) := (Below.refl _ _).alloc (Nat.le_refl _) _
      have OC := lof_calls zk zA zb.length zc (wr.alloc (.cells #[.int .u8 (zk.toNat : Int), .slice zA zb.length zc] 38))
      go_wp2_with fail
      (with_reducible refine OC.mono ?_)
      clear OC
      rintro _ w9 ⟨rfl, b9⟩
      have b89 := b8.trans (b9.mono b8.size)
      have own9 := own_below own b89 (fun i hi => (own.lt i hi).2)
      have bel9 := bel.trans (b89.mono bel.size)
      have hs9 := b89.size
      have HBL := Lib.hid bel9
      clear x0 x1 b8 b9 bel9 own b89
      go_wp2_with ((with_reducible show wpList _ _ _ (⟨some 64, _, _, _, _, _⟩ :: _) _ _); refine wpList_append_rv el_rec rfl (.tmp 60) (.tmp 63) rfl w1.heap.size (.slice AR k cR) k (rC ((xr.drop c).take k)) rfl (own9.alloc _) (some ⟨w9.heap.size, 0, none⟩) 1 1 [.int .u8 (zk.toNat : Int), .slice zA zb.length zc] rfl rfl (RV.new w9 [.int .u8 (zk.toNat : Int), .slice zA zb.length zc] 40 (0, 0)) (rec_one _ _ _ _) ?f2 ?f3 ?f4 ?_)
      case f2 => unfold maxLen; omega
      case f3 => omega
      case f4 => simp; omega
      intro v10 w10 own10 gr10 hv10
      have HC : Hid (w10.ownsRow w1.heap.size 40 2 v10 (k + 1) (rC ((xr.drop c).take (k + 1))) ∧ Below w1.heap.size w1 w10) := by
        refine ⟨by rw [HT.out]; exact own10, (HBL.out.alloc HBL.out.size _).grown gr10 (by simp; omega) (fun i hi => ?_)⟩
        exact ((own9.alloc (.cells #[.int .u8 (zk.toNat : Int), .slice zA zb.length zc] 40)).lt i hi).1
      clear own10 gr10 hv10 own9
      go_wp2
      go_roundw
      case rel => exact ⟨k + 1, by omega, by go_num, HC.out.1, HC.out.2⟩
      case measure => simp [intOf]; omega
    · obtain rfl : k = m := by omega
      have dec : decide ((k : Int) < (k : Int)) = false := decide_eq_false (by omega)
      have dec' : decide (k < k) = false := decide_eq_false (by omega)
      have htk : (xr.drop c).take k = xr.drop c := by rw [← Hdl.out, List.take_length]
      rw [htk] at own
      have hcb := hb0.below bel hb0.lt
      have hzb := hz0.below bel hz0.lt
      have hXr := hX1.below bel
      have hksr : ∀ z ∈ xr.drop c, RecOK wr (fun k => j.foot k ∨ (X k ∨ k = w.heap.size + 1 + 1)) z := fun z hz => (hks1 z hz).below bel
      have RVr := RV1.below bel
      have hbs := bel.size
      have hFl : ∀ i, (j.foot i ∨ (X i ∨ i = w.heap.size + 1 + 1)) → i < wr.heap.size := fun i hi => by
        rcases hi with hi | hi | hi
        · have := hjl i hi; omega
        · have := HM.out.lt i hi; omega
        · omega
      have hF1 : ∀ (i : Nat), (j.foot i ∨ (X i ∨ i = w.heap.size + 1 + 1)) ∨ i = wr.heap.size → i < wr.heap.size + 1 := fun i hi => by
        rcases hi with hi | hi
        · have := hFl i hi; omega
        · omega
      obtain ⟨E, hE⟩ : ∃ E, turnE j.y.size p ((xr.drop c).map RecR.abs) = E := ⟨_, rfl⟩
      obtain ⟨P', hP'⟩ : ∃ P', p.turnS j.y.size ((xr.drop c).map RecR.abs) = P' := ⟨_, rfl⟩
      have hxe := hxs.epoch
      simp only at hxe
      have TC1 := fun (w' : World) (b : Below wr.heap.size wr w') => xturn_calls ⟨xA, xc, xr, xl, xh, xs, xe⟩ (xr.drop c) k Hdl.out A2 (xc - c) j.y.size p dlt w' (fun k => j.foot k ∨ (X k ∨ k = w.heap.size + 1 + 1)) (hXr.below b) (fun i hi => Nat.lt_of_lt_of_le (hFl i hi) b.size) (RVr.below b) (fun z hz => (hksr z hz).below b) hxs a1 a2 (by omega) (by omega) (by simp only; omega) (by simp only; omega)
      have TC2 := fun (w' : World) (b : Below wr.heap.size wr w') (hl : wr.heap.size < w'.heap.size) => xturn_calls ⟨xA, xc, xr, xl, xh, xs, xe⟩ (xr.drop c) k Hdl.out A2 (xc - c) j.y.size p dlt w' (fun i => (j.foot i ∨ (X i ∨ i = w.heap.size + 1 + 1)) ∨ i = wr.heap.size) ((hXr.mono (G := fun i => (j.foot i ∨ (X i ∨ i = w.heap.size + 1 + 1)) ∨ i = wr.heap.size) fun i hi hf => hf.elim id (fun e => by omega)).below b) (fun i hi => by have := hF1 i hi; omega) (RVr.below b) (fun z hz => ((hksr z hz).mono (G := fun i => (j.foot i ∨ (X i ∨ i = w.heap.size + 1 + 1)) ∨ i = wr.heap.size) fun i hi hf => hf.elim id (fun e => by omega)).below b) hxs a1 a2 (by omega) (by omega) (by simp only; omega) (by simp only; omega)
      rw [XL.val_eq, Hn.out, hE, hP'] at TC1 TC2
      have HE := Lib.hid hE
      have HP' := Lib.hid hP'
      have rA := HA2.out
      have rm := Hm.out
      have bd : Below wr.heap.size wr wr.drew := (Below.refl _ _).drew
      have ba : ∀ o, Below wr.heap.size wr ((wr.alloc o).drew) := fun o => ((Below.refl _ _).alloc (Nat.le_refl _) o).drew
      have HS : Hid (∀ wq, Below wr.heap.size wr wq → (wq.cell? ⟨w.heap.size, 0, none⟩ = some (.slice xA n xc) ∧ wq.cell? ⟨w.heap.size, 1, none⟩ = some (.int .i64 (xl : Int)) ∧ wq.cell? ⟨w.heap.size, 2, none⟩ = some (.int .i64 xh) ∧ wq.cell? ⟨w.heap.size, 3, none⟩ = some (.int .i64 xs) ∧ wq.cell? ⟨w.heap.size, 4, none⟩ = some (.int .i64 xe))) := by
        intro wq b
        have a1 := hcb.below b hcb.lt
        exact ⟨a1.at_ rfl, a1.at_ rfl, a1.at_ rfl, a1.at_ rfl, a1.at_ rfl⟩
      have nz0 : Blk ((wr.alloc (.cells #[.slice none 0 0, .int .i64 0, .int .i64 0, .int .i64 0, .int .i64 0] 31)).drew) wr.heap.size 31 #[.slice none 0 0, .int .i64 0, .int .i64 0, .int .i64 0, .int .i64 0] := Blk.new wr _ _
      have f1 := HS.out _ bd
      have fa := fun o => HS.out _ (ba o)
      have HEQ : Hid (p.turnS j.y.size (p.rs.drop (af.toNat % (p.rs.length + 1))) = P') := by
        show _ = _
        rw [Hnp.out, Hc.out, ← hP']
        congr 1
        rw [← hxs.rs, List.map_drop]
      have HK := Lib.hid hksr
      clear hE hP' hxe hXr hksr RVr hFl hF1 hb0 hc0 hz0 RV1 hks1 hX1 hX hxs
      go_wp2_with fail
      go_region_held (fun wq => wq.cell? ⟨w.heap.size, 0, none⟩ = some (.slice xA n xc) ∧ wq.cell? ⟨w.heap.size, 1, none⟩ = some (.int .i64 (xl : Int)) ∧ wq.cell? ⟨w.heap.size, 2, none⟩ = some (.int .i64 xh) ∧ wq.cell? ⟨w.heap.size, 3, none⟩ = some (.int .i64 xs) ∧ wq.cell? ⟨w.heap.size, 4, none⟩ = some (.int .i64 xe)) (first | (with_reducible exact f1) | (with_reducible exact fa _) | (with_reducible exact f2) | (with_reducible exact f2a _) | (with_reducible exact f2s _ _ _ _ _)) (first
        | (go_at_call 28; (with_reducible refine (TC1 _ bd).mono ?_); rintro _ w2 ⟨⟨xA2, xc2, xr2, xl2, xh2, xs2, xe2⟩, rfl, hx2, ok2, b2z⟩; rw [XL.val_eq]; have b2 := bd.trans (b2z.mono bd.size); have f2 := HS.out _ b2; have f2a := fun o => HS.out _ (b2.alloc b2.size o))
        | (go_at_call 28; (with_reducible refine (TC2 _ (ba _) (by simp)).mono ?_); rintro _ w2 ⟨⟨xA2, xc2, xr2, xl2, xh2, xs2, xe2⟩, rfl, hx2, ok2, b2z⟩; rw [XL.val_eq]; have b2 := (ba _).trans (b2z.mono (ba _).size); have nz2 := nz0.below b2z nz0.lt; have n0 := nz2.at_ (i := 0) rfl; have n1 := nz2.at_ (i := 1) rfl; have n2 := nz2.at_ (i := 2) rfl; have n3 := nz2.at_ (i := 3) rfl; have n4 := nz2.at_ (i := 4) rfl; have v0 := nz2.frozen 0; have v1 := nz2.frozen 1; have v2 := nz2.frozen 2; have v3 := nz2.frozen 3; have v4 := nz2.frozen 4; have f2 := HS.out _ b2; have f2s := fun v0 v1 v2 v3 v4 => HS.out _ (((((b2.setCell (p := ⟨wr.heap.size, 0, none⟩) (Nat.le_refl _) v0).setCell (p := ⟨wr.heap.size, 1, none⟩) (Nat.le_refl _) v1).setCell (p := ⟨wr.heap.size, 2, none⟩) (Nat.le_refl _) v2).setCell (p := ⟨wr.heap.size, 3, none⟩) (Nat.le_refl _) v3).setCell (p := ⟨wr.heap.size, 4, none⟩) (Nat.le_refl _) v4)))
      rotate_left
      · have hs2 := b2.size
        obtain ⟨w3, hw3⟩ : ∃ w3, (((((w2.setCell ⟨wr.heap.size, 0, none⟩ (.slice xA2 xr2.length xc2)).setCell ⟨wr.heap.size, 1, none⟩ (.int .i64 (xl2 : Int))).setCell ⟨wr.heap.size, 2, none⟩ (.int .i64 xh2)).setCell ⟨wr.heap.size, 3, none⟩ (.int .i64 xs2)).setCell ⟨wr.heap.size, 4, none⟩ (.int .i64 xe2)) = w3 := ⟨_, rfl⟩
        have nb3 : Blk w3 wr.heap.size 31 #[.slice xA2 xr2.length xc2, .int .i64 (xl2 : Int), .int .i64 xh2, .int .i64 xs2, .int .i64 xe2] := by
          rw [← hw3]
          exact ((((nz2.set_ 0 _).set_ 1 _).set_ 2 _).set_ 3 _).set_ 4 _
        have B3 : Below wr.heap.size wr w3 := by
          rw [← hw3]
          exact ((((b2.setCell (p := ⟨wr.heap.size, 0, none⟩) (Nat.le_refl _) _).setCell (p := ⟨wr.heap.size, 1, none⟩) (Nat.le_refl _) _).setCell (p := ⟨wr.heap.size, 2, none⟩) (Nat.le_refl _) _).setCell (p := ⟨wr.heap.size, 3, none⟩) (Nat.le_refl _) _).setCell (p := ⟨wr.heap.size, 4, none⟩) (Nat.le_refl _) _
        have ok3 : XOK w3 (fun k => j.foot k ∨ (X k ∨ k = w.heap.size + 1 + 1)) ⟨xA2, xc2, xr2, xl2, xh2, xs2, xe2⟩ := by
          have K : Kept (fun i => (j.foot i ∨ (X i ∨ i = w.heap.size + 1 + 1)) ∨ i = wr.heap.size) w2 w3 := by
            rw [← hw3]
            exact (((((Kept.refl (fun i => (j.foot i ∨ (X i ∨ i = w.heap.size + 1 + 1)) ∨ i = wr.heap.size) w2).setCell (p := ⟨wr.heap.size, 0, none⟩) (.inl (.inr rfl)) _).setCell (p := ⟨wr.heap.size, 1, none⟩) (.inl (.inr rfl)) _).setCell (p := ⟨wr.heap.size, 2, none⟩) (.inl (.inr rfl)) _).setCell (p := ⟨wr.heap.size, 3, none⟩) (.inl (.inr rfl)) _).setCell (p := ⟨wr.heap.size, 4, none⟩) (.inl (.inr rfl)) _
          exact ok2.next K fun _ _ hk => .inl hk
        rw [hw3]
        obtain ⟨N, hN⟩ : ∃ N, N = wr.heap.size := ⟨_, rfl⟩
        have hNw : wr.heap.size ≤ N := by omega
        rw [← hN] at nb3 ⊢
        clear hw3 hN n0 n1 n2 n3 n4 v0 v1 v2 v3 v4 nz2 f2 f2s b2 hs2 TC1 TC2 f1 fa HS nz0 ba bd ok2
        have hzb3 := hzb.below B3 hzb.lt
        have hs3 := B3.size
        have hNl := nb3.lt
        have hzl := hzb3.lt
        have hzw := hzb.lt
        have hNR : N ≠ w.heap.size + 1 + 1 := by omega
        have Bw := (B1.trans (bel.mono B1.size))
        have BW := Bw.trans (B3.mono Bw.size)
        have L3 := HM.out.L.below BW
        have own3 := own_below own B3 (fun i hi => (own.lt i hi).2)
        have rv3 := (own_rvfN (F := fun _ => False) own3 (fun _ hk => hk.elim)).rv
        have TC := jTurn_calls j p (xr.drop c) AR cR w3 base L3 he rv3 (fun z hz => ((HK.out z hz).mono (G := fun _ => False) fun _ _ hk => hk.elim).below B3) (by rw [Hdl.out]; omega) (hT.below BW) (by have := BW.size; omega) hg
        rw [Hdl.out, HE.out, HP'.out] at TC
        have HX2 := Lib.hid hx2
        have HS : Hid (∀ wq, Blk wq N 31 #[.slice xA2 xr2.length xc2, .int .i64 (xl2 : Int), .int .i64 xh2, .int .i64 xs2, .int .i64 xe2] → (wq.cell? ⟨N, 0, none⟩ = some (.slice xA2 xr2.length xc2) ∧ wq.cell? ⟨N, 1, none⟩ = some (.int .i64 (xl2 : Int)) ∧ wq.cell? ⟨N, 2, none⟩ = some (.int .i64 xh2) ∧ wq.cell? ⟨N, 3, none⟩ = some (.int .i64 xs2) ∧ wq.cell? ⟨N, 4, none⟩ = some (.int .i64 xe2))) := fun wq q1 => ⟨q1.at_ rfl, q1.at_ rfl, q1.at_ rfl, q1.at_ rfl, q1.at_ rfl⟩
        have f3 := HS.out w3.drew nb3
        have HF6 : Hid (∀ (w5 : World) (v0 v1 v2 v3 v4 : Value), Blk w5 N 31 #[.slice xA2 xr2.length xc2, .int .i64 (xl2 : Int), .int .i64 xh2, .int .i64 xs2, .int .i64 xe2] →
            Blk (((((w5.setCell ⟨w.heap.size + 1 + 1, 0, none⟩ v0).setCell ⟨w.heap.size + 1 + 1, 1, none⟩ v1).setCell ⟨w.heap.size + 1 + 1, 2, none⟩ v2).setCell ⟨w.heap.size + 1 + 1, 3, none⟩ v3).setCell ⟨w.heap.size + 1 + 1, 4, none⟩ v4) N 31 #[.slice xA2 xr2.length xc2, .int .i64 (xl2 : Int), .int .i64 xh2, .int .i64 xs2, .int .i64 xe2]) :=
          fun w5 v0 v1 v2 v3 v4 q1 => ((((q1.far (p := ⟨w.heap.size + 1 + 1, 0, none⟩) hNR v0).far (p := ⟨w.heap.size + 1 + 1, 1, none⟩) hNR v1).far (p := ⟨w.heap.size + 1 + 1, 2, none⟩) hNR v2).far (p := ⟨w.heap.size + 1 + 1, 3, none⟩) hNR v3).far (p := ⟨w.heap.size + 1 + 1, 4, none⟩) hNR v4
        have HEND : Hid (∀ (w5 : World) (v0 v1 v2 v3 v4 : Value), NextJ w3.drew base j P' w5 → RetDo w base X j dlt (p.turnS j.y.size (p.rs.drop (af.toNat % (p.rs.length + 1)))) (.returned (.tuple #[.agg #[.slice xA2 xr2.length xc2, .int .i64 (xl2 : Int), .int .i64 xh2, .int .i64 xs2, .int .i64 xe2], .bool true])) (((((w5.setCell ⟨w.heap.size + 1 + 1, 0, none⟩ v0).setCell ⟨w.heap.size + 1 + 1, 1, none⟩ v1).setCell ⟨w.heap.size + 1 + 1, 2, none⟩ v2).setCell ⟨w.heap.size + 1 + 1, 3, none⟩ v3).setCell ⟨w.heap.size + 1 + 1, 4, none⟩ v4)) := by
          intro w5 v0 v1 v2 v3 v4 n
          rw [HEQ.out]
          have K : Kept (fun k => k = w.heap.size + 1 + 1) w5 (((((w5.setCell ⟨w.heap.size + 1 + 1, 0, none⟩ v0).setCell ⟨w.heap.size + 1 + 1, 1, none⟩ v1).setCell ⟨w.heap.size + 1 + 1, 2, none⟩ v2).setCell ⟨w.heap.size + 1 + 1, 3, none⟩ v3).setCell ⟨w.heap.size + 1 + 1, 4, none⟩ v4) :=
            (((((Kept.refl (fun k => k = w.heap.size + 1 + 1) w5).setCell (p := ⟨w.heap.size + 1 + 1, 0, none⟩) (.inl rfl) v0).setCell (p := ⟨w.heap.size + 1 + 1, 1, none⟩) (.inl rfl) v1).setCell (p := ⟨w.heap.size + 1 + 1, 2, none⟩) (.inl rfl) v2).setCell (p := ⟨w.heap.size + 1 + 1, 3, none⟩) (.inl rfl) v3).setCell (p := ⟨w.heap.size + 1 + 1, 4, none⟩) (.inl rfl) v4
          have bd3 : Below w3.heap.size w3 w3.drew := (Below.refl _ _).drew
          exact do_end (w1 := w3.drew) (x' := ⟨xA2, xc2, xr2, xl2, xh2, xs2, xe2⟩) HM.out (BW.trans (bd3.mono BW.size)) (fun i hi => by subst hi; exact ⟨by omega, hzl⟩) HX2.out (ok3.below bd3) n K
        have KF : Hid (∀ (w5 : World) (p' : PJ), NextJ w3.drew base j p' w5 → Blk w5 N 31 #[.slice xA2 xr2.length xc2, .int .i64 (xl2 : Int), .int .i64 xh2, .int .i64 xs2, .int .i64 xe2] ∧ Blk w5 (w.heap.size + 1 + 1) 31 #[.slice none 0 0, .int .i64 0, .int .i64 0, .int .i64 0, .int .i64 0]) := by
          rintro w5 p' ⟨j', _, _, _, _, k5, _⟩
          exact ⟨(k5.block N hNl (fun hk => by have := hjl _ hk; omega)).trans nb3, (k5.block _ hzl (fun hk => by have := hjl _ hk; omega)).trans hzb3⟩
        have TCd : Calls Tryd.prog 29 #[.pointer (some ⟨j.G, 0, none⟩), .slice AR k cR] w3.drew (RetJ w3.drew base j E P') := by
          have bd3 : Below w3.heap.size w3 w3.drew := (Below.refl _ _).drew
          have := jTurn_calls j p (xr.drop c) AR cR w3.drew base (L3.below bd3) he rv3.drew (fun z hz => (((HK.out z hz).mono (G := fun _ => False) fun _ _ hk => hk.elim).below B3).drew) (by rw [Hdl.out]; omega) ((hT.below BW).below bd3) (by have := BW.size; show base ≤ w3.heap.size; omega) hg
          rw [Hdl.out, HE.out, HP'.out] at this
          exact this
        clear TC L3 own3 rv3 own HM hT HX2 HE HP' HK Bw BW ok3 hzb hcb B1 bel
        go_wp2_with fail
        go_region_held (fun wq => wq.cell? ⟨N, 0, none⟩ = some (.slice xA2 xr2.length xc2) ∧ wq.cell? ⟨N, 1, none⟩ = some (.int .i64 (xl2 : Int)) ∧ wq.cell? ⟨N, 2, none⟩ = some (.int .i64 xh2) ∧ wq.cell? ⟨N, 3, none⟩ = some (.int .i64 xs2) ∧ wq.cell? ⟨N, 4, none⟩ = some (.int .i64 xe2)) (first | (with_reducible exact f3) | (with_reducible exact f5) | (with_reducible exact HS.out _ (HF6.out _ _ _ _ _ _ f5b))) (first
          | (go_at_call 29; (with_reducible refine TCd.mono ?_); rintro _ w5 ⟨rfl, n5⟩; have kf := KF.out w5 _ n5; have f5b := kf.1; have f5 := HS.out _ f5b; have HG := Lib.hid (fun v0 v1 v2 v3 v4 => HEND.out w5 v0 v1 v2 v3 v4 n5); have z0 : w5.cell? ⟨w.heap.size + 1 + 1, 0, none⟩ = some (.slice none 0 0) := kf.2.at_ rfl; have z1 : w5.cell? ⟨w.heap.size + 1 + 1, 1, none⟩ = some (.int .i64 0) := kf.2.at_ rfl; have z2 : w5.cell? ⟨w.heap.size + 1 + 1, 2, none⟩ = some (.int .i64 0) := kf.2.at_ rfl; have z3 : w5.cell? ⟨w.heap.size + 1 + 1, 3, none⟩ = some (.int .i64 0) := kf.2.at_ rfl; have z4 : w5.cell? ⟨w.heap.size + 1 + 1, 4, none⟩ = some (.int .i64 0) := kf.2.at_ rfl; have y0 := kf.2.frozen 0; have y1 := kf.2.frozen 1; have y2 := kf.2.frozen 2; have y3 := kf.2.frozen 3; have y4 := kf.2.frozen 4; clear n5 kf))
        clear HS HF6 HEND KF TCd f3 f5 f5b nb3 hzb3 B3
        go_wp2_with fail
        exact bodyPost_ret (v := .tuple #[.agg #[.slice xA2 xr2.length xc2, .int .i64 (xl2 : Int), .int .i64 xh2, .int .i64 xs2, .int .i64 xe2], .bool true]) (by simp [results, Tryd.results19, go_sem, *]) rfl (HG.out _ _ _ _ _)
      · have nb3 := Blk.new w2 31 #[.slice xA2 xr2.length xc2, .int .i64 (xl2 : Int), .int .i64 xh2, .int .i64 xs2, .int .i64 xe2]
        have b3 : Below w2.heap.size w2 (w2.alloc (.cells #[.slice xA2 xr2.length xc2, .int .i64 (xl2 : Int), .int .i64 xh2, .int .i64 xs2, .int .i64 xe2] 31)) := (Below.refl _ _).alloc (Nat.le_refl _) _
        have B3 := b2.trans (b3.mono b2.size)
        have ok3 := ok2.below b3
        have hs2 := b2.size
        generalize w2.alloc (.cells #[.slice xA2 xr2.length xc2, .int .i64 (xl2 : Int), .int .i64 xh2, .int .i64 xs2, .int .i64 xe2] 31) = w3 at *
        obtain ⟨N, hN⟩ : ∃ N, N = w2.heap.size := ⟨_, rfl⟩
        have hNw : wr.heap.size ≤ N := by omega
        rw [← hN] at nb3 ⊢
        clear hN f2 f2a b2 hs2 TC1 TC2 f1 fa HS nz0 ba bd ok2 b3
        have hzb3 := hzb.below B3 hzb.lt
        have hs3 := B3.size
        have hNl := nb3.lt
        have hzl := hzb3.lt
        have hzw := hzb.lt
        have hNR : N ≠ w.heap.size + 1 + 1 := by omega
        have Bw := (B1.trans (bel.mono B1.size))
        have BW := Bw.trans (B3.mono Bw.size)
        have L3 := HM.out.L.below BW
        have own3 := own_below own B3 (fun i hi => (own.lt i hi).2)
        have rv3 := (own_rvfN (F := fun _ => False) own3 (fun _ hk => hk.elim)).rv
        have TC := jTurn_calls j p (xr.drop c) AR cR w3 base L3 he rv3 (fun z hz => ((HK.out z hz).mono (G := fun _ => False) fun _ _ hk => hk.elim).below B3) (by rw [Hdl.out]; omega) (hT.below BW) (by have := BW.size; omega) hg
        rw [Hdl.out, HE.out, HP'.out] at TC
        have HX2 := Lib.hid hx2
        have HS : Hid (∀ wq, Blk wq N 31 #[.slice xA2 xr2.length xc2, .int .i64 (xl2 : Int), .int .i64 xh2, .int .i64 xs2, .int .i64 xe2] → (wq.cell? ⟨N, 0, none⟩ = some (.slice xA2 xr2.length xc2) ∧ wq.cell? ⟨N, 1, none⟩ = some (.int .i64 (xl2 : Int)) ∧ wq.cell? ⟨N, 2, none⟩ = some (.int .i64 xh2) ∧ wq.cell? ⟨N, 3, none⟩ = some (.int .i64 xs2) ∧ wq.cell? ⟨N, 4, none⟩ = some (.int .i64 xe2))) := fun wq q1 => ⟨q1.at_ rfl, q1.at_ rfl, q1.at_ rfl, q1.at_ rfl, q1.at_ rfl⟩
        have f3 := HS.out w3.drew nb3
        have HF6 : Hid (∀ (w5 : World) (v0 v1 v2 v3 v4 : Value), Blk w5 N 31 #[.slice xA2 xr2.length xc2, .int .i64 (xl2 : Int), .int .i64 xh2, .int .i64 xs2, .int .i64 xe2] →
            Blk (((((w5.setCell ⟨w.heap.size + 1 + 1, 0, none⟩ v0).setCell ⟨w.heap.size + 1 + 1, 1, none⟩ v1).setCell ⟨w.heap.size + 1 + 1, 2, none⟩ v2).setCell ⟨w.heap.size + 1 + 1, 3, none⟩ v3).setCell ⟨w.heap.size + 1 + 1, 4, none⟩ v4) N 31 #[.slice xA2 xr2.length xc2, .int .i64 (xl2 : Int), .int .i64 xh2, .int .i64 xs2, .int .i64 xe2]) :=
          fun w5 v0 v1 v2 v3 v4 q1 => ((((q1.far (p := ⟨w.heap.size + 1 + 1, 0, none⟩) hNR v0).far (p := ⟨w.heap.size + 1 + 1, 1, none⟩) hNR v1).far (p := ⟨w.heap.size + 1 + 1, 2, none⟩) hNR v2).far (p := ⟨w.heap.size + 1 + 1, 3, none⟩) hNR v3).far (p := ⟨w.heap.size + 1 + 1, 4, none⟩) hNR v4
        have HEND : Hid (∀ (w5 : World) (v0 v1 v2 v3 v4 : Value), NextJ w3.drew base j P' w5 → RetDo w base X j dlt (p.turnS j.y.size (p.rs.drop (af.toNat % (p.rs.length + 1)))) (.returned (.tuple #[.agg #[.slice xA2 xr2.length xc2, .int .i64 (xl2 : Int), .int .i64 xh2, .int .i64 xs2, .int .i64 xe2], .bool true])) (((((w5.setCell ⟨w.heap.size + 1 + 1, 0, none⟩ v0).setCell ⟨w.heap.size + 1 + 1, 1, none⟩ v1).setCell ⟨w.heap.size + 1 + 1, 2, none⟩ v2).setCell ⟨w.heap.size + 1 + 1, 3, none⟩ v3).setCell ⟨w.heap.size + 1 + 1, 4, none⟩ v4)) := by
          intro w5 v0 v1 v2 v3 v4 n
          rw [HEQ.out]
          have K : Kept (fun k => k = w.heap.size + 1 + 1) w5 (((((w5.setCell ⟨w.heap.size + 1 + 1, 0, none⟩ v0).setCell ⟨w.heap.size + 1 + 1, 1, none⟩ v1).setCell ⟨w.heap.size + 1 + 1, 2, none⟩ v2).setCell ⟨w.heap.size + 1 + 1, 3, none⟩ v3).setCell ⟨w.heap.size + 1 + 1, 4, none⟩ v4) :=
            (((((Kept.refl (fun k => k = w.heap.size + 1 + 1) w5).setCell (p := ⟨w.heap.size + 1 + 1, 0, none⟩) (.inl rfl) v0).setCell (p := ⟨w.heap.size + 1 + 1, 1, none⟩) (.inl rfl) v1).setCell (p := ⟨w.heap.size + 1 + 1, 2, none⟩) (.inl rfl) v2).setCell (p := ⟨w.heap.size + 1 + 1, 3, none⟩) (.inl rfl) v3).setCell (p := ⟨w.heap.size + 1 + 1, 4, none⟩) (.inl rfl) v4
          have bd3 : Below w3.heap.size w3 w3.drew := (Below.refl _ _).drew
          exact do_end (w1 := w3.drew) (x' := ⟨xA2, xc2, xr2, xl2, xh2, xs2, xe2⟩) HM.out (BW.trans (bd3.mono BW.size)) (fun i hi => by subst hi; exact ⟨by omega, hzl⟩) HX2.out (ok3.below bd3) n K
        have KF : Hid (∀ (w5 : World) (p' : PJ), NextJ w3.drew base j p' w5 → Blk w5 N 31 #[.slice xA2 xr2.length xc2, .int .i64 (xl2 : Int), .int .i64 xh2, .int .i64 xs2, .int .i64 xe2] ∧ Blk w5 (w.heap.size + 1 + 1) 31 #[.slice none 0 0, .int .i64 0, .int .i64 0, .int .i64 0, .int .i64 0]) := by
          rintro w5 p' ⟨j', _, _, _, _, k5, _⟩
          exact ⟨(k5.block N hNl (fun hk => by have := hjl _ hk; omega)).trans nb3, (k5.block _ hzl (fun hk => by have := hjl _ hk; omega)).trans hzb3⟩
        have TCd : Calls Tryd.prog 29 #[.pointer (some ⟨j.G, 0, none⟩), .slice AR k cR] w3.drew (RetJ w3.drew base j E P') := by
          have bd3 : Below w3.heap.size w3 w3.drew := (Below.refl _ _).drew
          have := jTurn_calls j p (xr.drop c) AR cR w3.drew base (L3.below bd3) he rv3.drew (fun z hz => (((HK.out z hz).mono (G := fun _ => False) fun _ _ hk => hk.elim).below B3).drew) (by rw [Hdl.out]; omega) ((hT.below BW).below bd3) (by have := BW.size; show base ≤ w3.heap.size; omega) hg
          rw [Hdl.out, HE.out, HP'.out] at this
          exact this
        clear TC L3 own3 rv3 own HM hT HX2 HE HP' HK Bw BW ok3 hzb hcb B1 bel
        go_wp2_with fail
        go_region_held (fun wq => wq.cell? ⟨N, 0, none⟩ = some (.slice xA2 xr2.length xc2) ∧ wq.cell? ⟨N, 1, none⟩ = some (.int .i64 (xl2 : Int)) ∧ wq.cell? ⟨N, 2, none⟩ = some (.int .i64 xh2) ∧ wq.cell? ⟨N, 3, none⟩ = some (.int .i64 xs2) ∧ wq.cell? ⟨N, 4, none⟩ = some (.int .i64 xe2)) (first | (with_reducible exact f3) | (with_reducible exact f5) | (with_reducible exact HS.out _ (HF6.out _ _ _ _ _ _ f5b))) (first
          | (go_at_call 29; (with_reducible refine TCd.mono ?_); rintro _ w5 ⟨rfl, n5⟩; have kf := KF.out w5 _ n5; have f5b := kf.1; have f5 := HS.out _ f5b; have HG := Lib.hid (fun v0 v1 v2 v3 v4 => HEND.out w5 v0 v1 v2 v3 v4 n5); have z0 : w5.cell? ⟨w.heap.size + 1 + 1, 0, none⟩ = some (.slice none 0 0) := kf.2.at_ rfl; have z1 : w5.cell? ⟨w.heap.size + 1 + 1, 1, none⟩ = some (.int .i64 0) := kf.2.at_ rfl; have z2 : w5.cell? ⟨w.heap.size + 1 + 1, 2, none⟩ = some (.int .i64 0) := kf.2.at_ rfl; have z3 : w5.cell? ⟨w.heap.size + 1 + 1, 3, none⟩ = some (.int .i64 0) := kf.2.at_ rfl; have z4 : w5.cell? ⟨w.heap.size + 1 + 1, 4, none⟩ = some (.int .i64 0) := kf.2.at_ rfl; have y0 := kf.2.frozen 0; have y1 := kf.2.frozen 1; have y2 := kf.2.frozen 2; have y3 := kf.2.frozen 3; have y4 := kf.2.frozen 4; clear n5 kf))
        clear HS HF6 HEND KF TCd f3 f5 f5b nb3 hzb3 B3
        go_wp2_with fail
        exact bodyPost_ret (v := .tuple #[.agg #[.slice xA2 xr2.length xc2, .int .i64 (xl2 : Int), .int .i64 xh2, .int .i64 xs2, .int .i64 xe2], .bool true]) (by simp [results, Tryd.results19, go_sem, *]) rfl (HG.out _ _ _ _ _)
end Go.Proofs.YtpojlchikaffhaaDoor
