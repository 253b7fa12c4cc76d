/-
  The walk of the statements' do, where a record is added.
-/
import Derived.Test.YtpojlchikaffhaaDoorJourDoA
namespace Go.Proofs.YtpojlchikaffhaaDoor
open Go.RowKit DiskP SumP PageP JourP

/-- What both logs' calls ask. -/
theorem BothJ.asks {w : World} {base : Nat} {X : Nat → Prop} {j : JL} {x : XL} {p : PJ} {dlt : Int} (h : BothJ w base X j x p dlt) : 19 ≤ j.y.size ∧ j.y.size ≤ 4096 ∧ p.half ≤ 65536 ∧ (∀ z ∈ p.rs, z.body.length ≤ 4000) ∧ p.rs.length ≤ 65536 ∧ sumNd j.y.size p.rs ≤ 65536 := by
  obtain ⟨z1, z2, z3, z4, z5, z6, z7, z8⟩ := h.L.sizes
  exact ⟨z1, z2, by omega, h.L.inv.base.small, by omega, by omega⟩
theorem XL.val_eq (A : Option Addr) (c : Nat) (rs : List RecR) (l : Nat) (h s e : Int) : XL.val ⟨A, c, rs, l, h, s, e⟩ = .agg #[.slice A rs.length c, .int .i64 (l : Int), .int .i64 h, .int .i64 s, .int .i64 e] := rfl
set_option maxHeartbeats 3200000 in
set_option maxRecDepth 100000 in
theorem do_add (j : JL) (p : PJ) (x : XL) (dlt : Int) (a : ActR) (w : World) (base : Nat) (X : Nat → Prop) (h : BothJ w base X j x p dlt) (hT : Tab w) (hbase : base ≤ w.heap.size) (hg : 0 < base) (ha : RecOK w (fun k => j.foot k ∨ X k) a.r) (hk : a.kind.toNat % 3 = 0) :
    Calls Tryd.prog 19 #[.pointer (some ⟨j.G, 0, none⟩), x.val, .agg a.cells.toArray] w (RetDo w base X j dlt (p.addS j.y.size a.r.abs)) := by
  obtain ⟨a1, a2, a3, a4, a5, a6⟩ := h.asks
  obtain ⟨ak, ⟨rk, rA, rc, rb⟩, af⟩ := a
  simp only at ha hk
  obtain ⟨m1, m2⟩ := rem3 ak 0 hk
  have hxs := h.says
  have hX := h.ok
  have hjl : ∀ k, j.foot k → k < w.heap.size := fun k hk => (h.L.ok.foot_lt hk).2
  obtain ⟨xA, xc, xr, xl, xh, xs, xe⟩ := x
  have hb0 := ((Blk.new w 31 #[.slice xA xr.length xc, .int .i64 (xl : Int), .int .i64 xh, .int .i64 xs, .int .i64 xe]).alloc (.cells #[.int .u8 (ak.toNat : Int), .int .u8 (rk.toNat : Int), .slice rA rb.length rc, .int .u8 (af.toNat : Int)] 52)).alloc (.cells #[.slice none 0 0, .int .i64 0, .int .i64 0, .int .i64 0, .int .i64 0] 31)
  have hc0 := (Blk.new (w.alloc (.cells #[.slice xA xr.length xc, .int .i64 (xl : Int), .int .i64 xh, .int .i64 xs, .int .i64 xe] 31)) 52 #[.int .u8 (ak.toNat : Int), .int .u8 (rk.toNat : Int), .slice rA rb.length rc, .int .u8 (af.toNat : Int)]).alloc (.cells #[.slice none 0 0, .int .i64 0, .int .i64 0, .int .i64 0, .int .i64 0] 31)
  have hz0 := Blk.new ((w.alloc (.cells #[.slice xA xr.length xc, .int .i64 (xl : Int), .int .i64 xh, .int .i64 xs, .int .i64 xe] 31)).alloc (.cells #[.int .u8 (ak.toNat : Int), .int .u8 (rk.toNat : Int), .slice rA rb.length rc, .int .u8 (af.toNat : Int)] 52)) 31 #[.slice none 0 0, .int .i64 0, .int .i64 0, .int .i64 0, .int .i64 0]
  have B1 : Below w.heap.size w (((w.alloc (.cells #[.slice xA xr.length xc, .int .i64 (xl : Int), .int .i64 xh, .int .i64 xs, .int .i64 xe] 31)).alloc (.cells #[.int .u8 (ak.toNat : Int), .int .u8 (rk.toNat : Int), .slice rA rb.length rc, .int .u8 (af.toNat : Int)] 52)).alloc (.cells #[.slice none 0 0, .int .i64 0, .int .i64 0, .int .i64 0, .int .i64 0] 31)) := (((Below.refl _ _).alloc (Nat.le_refl _) _).alloc (by simp) _).alloc (by simp; omega) _
  simp only [World.size_alloc] at hc0 hz0
  have HM := Lib.hid h
  clear h
  show Calls Tryd.prog 19 #[.pointer (some ⟨j.G, 0, none⟩), .agg #[.slice xA xr.length xc, .int .i64 (xl : Int), .int .i64 xh, .int .i64 xs, .int .i64 xe], .agg #[.int .u8 (ak.toNat : Int), .int .u8 (rk.toNat : Int), .slice rA rb.length rc, .int .u8 (af.toNat : Int)]] w _
  go_enter Tryd.func19, Tryd.ntmps19
  go_wp2_with fail
  generalize (((w.alloc (.cells #[.slice xA xr.length xc, .int .i64 (xl : Int), .int .i64 xh, .int .i64 xs, .int .i64 xe] 31)).alloc (.cells #[.int .u8 (ak.toNat : Int), .int .u8 (rk.toNat : Int), .slice rA rb.length rc, .int .u8 (af.toNat : Int)] 52)).alloc (.cells #[.slice none 0 0, .int .i64 0, .int .i64 0, .int .i64 0, .int .i64 0] 31)) = w1 at *
  have hz1 := hz0.lt
  have hX1 : XOK w1 (fun k => j.foot k ∨ (X k ∨ k = w.heap.size + 1 + 1)) ⟨xA, xc, xr, xl, xh, xs, xe⟩ := (hX.mono (G := fun k => j.foot k ∨ (X k ∨ k = w.heap.size + 1 + 1)) fun k hk hf => by
    rcases hf with hf | hf | hf
    · exact .inl hf
    · exact .inr hf
    · omega).below B1
  have hr1 : RecOK w1 (fun k => j.foot k ∨ (X k ∨ k = w.heap.size + 1 + 1)) ⟨rk, rA, rc, rb⟩ := (ha.mono (G := fun k => j.foot k ∨ (X k ∨ k = w.heap.size + 1 + 1)) fun k hk hf => by
    rcases hf with hf | hf | hf
    · exact .inl hf
    · exact .inr hf
    · omega).below B1
  have hs1 := B1.size
  have RC := xadd_calls ⟨xA, xc, xr, xl, xh, xs, xe⟩ ⟨rk, rA, rc, rb⟩ j.y.size p dlt w1 (fun k => j.foot k ∨ (X k ∨ k = w.heap.size + 1 + 1)) hX1 (fun k hk => by
    rcases hk with hk | hk | hk
    · have := hjl k hk; omega
    · have := HM.out.lt k hk; omega
    · omega) hr1 hxs a1 a2 (by omega) a4 a5 (by omega)
  rw [XL.val_eq] at RC
  obtain ⟨E, hE⟩ : ∃ E, addE j.y.size p (RecR.abs ⟨rk, rA, rc, rb⟩) = E := ⟨_, rfl⟩
  rw [hE] at RC
  have HE := Lib.hid hE
  clear hE m1 m2 hX hX1 hxs a1 a2 a3 a4 a5 a6
  (with_reducible refine RC.mono ?_)
  clear RC
  rintro _ w2 ⟨⟨xA2, xc2, xr2, xl2, xh2, xs2, xe2⟩, rfl, hx2, ok2, b2⟩
  rw [XL.val_eq]
  have B2 := B1.trans (b2.mono B1.size)
  have hc2 := hc0.below b2 hc0.lt
  have hz2 := hz0.below b2 hz1
  have nb3 := Blk.new w2 31 #[.slice xA2 xr2.length xc2, .int .i64 (xl2 : Int), .int .i64 xh2, .int .i64 xs2, .int .i64 xe2]
  have b3 : Below w2.heap.size w2 (w2.alloc (.cells #[.slice xA2 xr2.length xc2, .int .i64 (xl2 : Int), .int .i64 xh2, .int .i64 xs2, .int .i64 xe2] 31)) := (Below.refl _ _).alloc (Nat.le_refl _) _
  have B3 := B2.trans (b3.mono B2.size)
  have hc3 := hc2.below b3 hc2.lt
  have hz3 := hz2.below b3 hz2.lt
  have ok3 := ok2.below b3
  have hr3 := (hr1.below b2).below b3
  have hs2 := b2.size
  have hN : w2.heap.size ≠ w.heap.size + 1 + 1 := by omega
  have HX2 := Lib.hid hx2
  clear hb0 hc0 hz0 hc2 hz2 hx2 ok2 hr1 B2
  go_wp2_with fail
  have hs3 := b3.size
  have hNl := nb3.lt
  have hcl := hc3.lt
  have hzl := hz3.lt
  generalize w2.alloc (.cells #[.slice xA2 xr2.length xc2, .int .i64 (xl2 : Int), .int .i64 xh2, .int .i64 xs2, .int .i64 xe2] 31) = w3 at *
  have OC := fun w' => lof_calls rk rA rb.length rc w'
  have L3 := HM.out.L.below B3
  have T3 := hT.below B3
  have AC := fun w4 (b4 : Below w3.heap.size w3 w4) => jadd_calls j p ⟨rk, rA, rc, rb⟩ w4 base (L3.below b4) (T3.below b4) (by have := b4.size; have := B3.size; omega) hg ((hr3.below b4).mono fun k _ hk => .inl hk)
  rw [HE.out] at AC
  have bd : Below w3.heap.size w3 w3.drew := (Below.refl _ _).drew
  have HS : Hid (∀ wq, Blk wq w2.heap.size 31 #[.slice xA2 xr2.length xc2, .int .i64 (xl2 : Int), .int .i64 xh2, .int .i64 xs2, .int .i64 xe2] → Blk wq (w.heap.size + 1) 52 #[.int .u8 (ak.toNat : Int), .int .u8 (rk.toNat : Int), .slice rA rb.length rc, .int .u8 (af.toNat : Int)] →
      (wq.cell? ⟨w2.heap.size, 0, none⟩ = some (.slice xA2 xr2.length xc2) ∧ wq.cell? ⟨w2.heap.size, 1, none⟩ = some (.int .i64 (xl2 : Int)) ∧ wq.cell? ⟨w2.heap.size, 2, none⟩ = some (.int .i64 xh2) ∧ wq.cell? ⟨w2.heap.size, 3, none⟩ = some (.int .i64 xs2) ∧ wq.cell? ⟨w2.heap.size, 4, none⟩ = some (.int .i64 xe2) ∧ wq.cell? ⟨w.heap.size + 1, 1, none⟩ = some (.int .u8 (rk.toNat : Int)) ∧ wq.cell? ⟨w.heap.size + 1, 2, none⟩ = some (.slice rA rb.length rc))) :=
    fun wq q1 q2 => ⟨q1.at_ rfl, q1.at_ rfl, q1.at_ rfl, q1.at_ rfl, q1.at_ rfl, q2.at_ rfl, q2.at_ rfl⟩
  have f3 := HS.out w3.drew nb3 hc3
  have hC : w.heap.size + 1 ≠ w.heap.size + 1 + 1 := by omega
  have HF6 : Hid (∀ (w5 : World) (v0 v1 v2 v3 v4 : Value), Blk w5 w2.heap.size 31 #[.slice xA2 xr2.length xc2, .int .i64 (xl2 : Int), .int .i64 xh2, .int .i64 xs2, .int .i64 xe2] → Blk w5 (w.heap.size + 1) 52 #[.int .u8 (ak.toNat : Int), .int .u8 (rk.toNat : Int), .slice rA rb.length rc, .int .u8 (af.toNat : Int)] →
      Blk (((((w5.setCell ⟨w.heap.size + 1 + 1, 0, none⟩ v0).setCell ⟨w.heap.size + 1 + 1, 1, none⟩ v1).setCell ⟨w.heap.size + 1 + 1, 2, none⟩ v2).setCell ⟨w.heap.size + 1 + 1, 3, none⟩ v3).setCell ⟨w.heap.size + 1 + 1, 4, none⟩ v4) w2.heap.size 31 #[.slice xA2 xr2.length xc2, .int .i64 (xl2 : Int), .int .i64 xh2, .int .i64 xs2, .int .i64 xe2] ∧
      Blk (((((w5.setCell ⟨w.heap.size + 1 + 1, 0, none⟩ v0).setCell ⟨w.heap.size + 1 + 1, 1, none⟩ v1).setCell ⟨w.heap.size + 1 + 1, 2, none⟩ v2).setCell ⟨w.heap.size + 1 + 1, 3, none⟩ v3).setCell ⟨w.heap.size + 1 + 1, 4, none⟩ v4) (w.heap.size + 1) 52 #[.int .u8 (ak.toNat : Int), .int .u8 (rk.toNat : Int), .slice rA rb.length rc, .int .u8 (af.toNat : Int)]) :=
    fun w5 v0 v1 v2 v3 v4 q1 q2 => ⟨((((q1.far (p := ⟨w.heap.size + 1 + 1, 0, none⟩) hN v0).far (p := ⟨w.heap.size + 1 + 1, 1, none⟩) hN v1).far (p := ⟨w.heap.size + 1 + 1, 2, none⟩) hN v2).far (p := ⟨w.heap.size + 1 + 1, 3, none⟩) hN v3).far (p := ⟨w.heap.size + 1 + 1, 4, none⟩) hN v4,
      ((((q2.far (p := ⟨w.heap.size + 1 + 1, 0, none⟩) hC v0).far (p := ⟨w.heap.size + 1 + 1, 1, none⟩) hC v1).far (p := ⟨w.heap.size + 1 + 1, 2, none⟩) hC v2).far (p := ⟨w.heap.size + 1 + 1, 3, none⟩) hC v3).far (p := ⟨w.heap.size + 1 + 1, 4, none⟩) hC v4⟩
  have HEND : Hid (∀ (w4 w5 : World) (v0 v1 v2 v3 v4 : Value), Below w3.heap.size w3 w4 → NextJ w4 base j (p.addS j.y.size (RecR.abs ⟨rk, rA, rc, rb⟩)) w5 → RetDo w base X j dlt (p.addS j.y.size (RecR.abs ⟨rk, rA, rc, rb⟩)) (.returned (.tuple #[.agg #[.slice xA2 xr2.length xc2, .int .i64 (xl2 : Int), .int .i64 xh2, .int .i64 xs2, .int .i64 xe2], .bool true])) (((((w5.setCell ⟨w.heap.size + 1 + 1, 0, none⟩ v0).setCell ⟨w.heap.size + 1 + 1, 1, none⟩ v1).setCell ⟨w.heap.size + 1 + 1, 2, none⟩ v2).setCell ⟨w.heap.size + 1 + 1, 3, none⟩ v3).setCell ⟨w.heap.size + 1 + 1, 4, none⟩ v4)) := by
    intro w4 w5 v0 v1 v2 v3 v4 b4 n
    have K : Kept (fun k => k = w.heap.size + 1 + 1) w5 (((((w5.setCell ⟨w.heap.size + 1 + 1, 0, none⟩ v0).setCell ⟨w.heap.size + 1 + 1, 1, none⟩ v1).setCell ⟨w.heap.size + 1 + 1, 2, none⟩ v2).setCell ⟨w.heap.size + 1 + 1, 3, none⟩ v3).setCell ⟨w.heap.size + 1 + 1, 4, none⟩ v4) :=
      (((((Kept.refl (fun k => k = w.heap.size + 1 + 1) w5).setCell (p := ⟨w.heap.size + 1 + 1, 0, none⟩) (.inl rfl) v0).setCell (p := ⟨w.heap.size + 1 + 1, 1, none⟩) (.inl rfl) v1).setCell (p := ⟨w.heap.size + 1 + 1, 2, none⟩) (.inl rfl) v2).setCell (p := ⟨w.heap.size + 1 + 1, 3, none⟩) (.inl rfl) v3).setCell (p := ⟨w.heap.size + 1 + 1, 4, none⟩) (.inl rfl) v4
    exact do_end (x' := ⟨xA2, xc2, xr2, xl2, xh2, xs2, xe2⟩) HM.out (B3.trans (b4.mono B3.size)) (fun k hk => by subst hk; have := b4.size; omega) HX2.out (ok3.below b4) n K
  have KF : Hid (∀ (w4 w5 : World) (p' : PJ), Below w3.heap.size w3 w4 → NextJ w4 base j p' w5 → Blk w5 w2.heap.size 31 #[.slice xA2 xr2.length xc2, .int .i64 (xl2 : Int), .int .i64 xh2, .int .i64 xs2, .int .i64 xe2] ∧ Blk w5 (w.heap.size + 1) 52 #[.int .u8 (ak.toNat : Int), .int .u8 (rk.toNat : Int), .slice rA rb.length rc, .int .u8 (af.toNat : Int)] ∧ Blk w5 (w.heap.size + 1 + 1) 31 #[.slice none 0 0, .int .i64 0, .int .i64 0, .int .i64 0, .int .i64 0]) := by
    rintro w4 w5 p' b4 ⟨j', _, _, _, _, k5, _⟩
    have := b4.size
    exact ⟨(k5.block _ (by omega) (fun hk => by have := hjl _ hk; omega)).trans (nb3.below b4 hNl), (k5.block _ (by omega) (fun hk => by have := hjl _ hk; omega)).trans (hc3.below b4 hcl), (k5.block _ (by omega) (fun hk => by have := hjl _ hk; omega)).trans (hz3.below b4 hzl)⟩
  clear ok3 hr3 L3 T3 ha HM hT HX2 HE
  go_region_held (fun wq => wq.cell? ⟨w2.heap.size, 0, none⟩ = some (.slice xA2 xr2.length xc2) ∧ wq.cell? ⟨w2.heap.size, 1, none⟩ = some (.int .i64 (xl2 : Int)) ∧ wq.cell? ⟨w2.heap.size, 2, none⟩ = some (.int .i64 xh2) ∧ wq.cell? ⟨w2.heap.size, 3, none⟩ = some (.int .i64 xs2) ∧ wq.cell? ⟨w2.heap.size, 4, none⟩ = some (.int .i64 xe2) ∧ wq.cell? ⟨w.heap.size + 1, 1, none⟩ = some (.int .u8 (rk.toNat : Int)) ∧ wq.cell? ⟨w.heap.size + 1, 2, none⟩ = some (.slice rA rb.length rc)) (first | (with_reducible exact f3) | (with_reducible exact f4) | (with_reducible exact f5) | (with_reducible exact HS.out _ (HF6.out _ _ _ _ _ _ f5b f5c).1 (HF6.out _ _ _ _ _ _ f5b f5c).2)) (first
    | (go_at_call 27; (with_reducible refine (OC _).mono ?_); rintro _ w4 ⟨rfl, b4z⟩; have b4 : Below w3.heap.size w3 w4 := ⟨b4z.os, b4z.tape, b4z.output, b4z.size, b4z.block⟩; clear b4z; have f4 := HS.out _ (nb3.below b4 hNl) (hc3.below b4 hcl))
    | (go_at_call 13; (with_reducible refine (AC w4 b4).mono ?_); rintro _ w5 ⟨rfl, n5⟩; have kf := KF.out w4 w5 _ b4 n5; have f5b := kf.1; have f5c := kf.2.1; have f5 := HS.out _ f5b f5c; have HG := Lib.hid (fun v0 v1 v2 v3 v4 => HEND.out w4 w5 v0 v1 v2 v3 v4 b4 n5); have z0 : w5.cell? ⟨w.heap.size + 1 + 1, 0, none⟩ = some (.slice none 0 0) := kf.2.2.at_ rfl; have z1 : w5.cell? ⟨w.heap.size + 1 + 1, 1, none⟩ = some (.int .i64 0) := kf.2.2.at_ rfl; have z2 : w5.cell? ⟨w.heap.size + 1 + 1, 2, none⟩ = some (.int .i64 0) := kf.2.2.at_ rfl; have z3 : w5.cell? ⟨w.heap.size + 1 + 1, 3, none⟩ = some (.int .i64 0) := kf.2.2.at_ rfl; have z4 : w5.cell? ⟨w.heap.size + 1 + 1, 4, none⟩ = some (.int .i64 0) := kf.2.2.at_ rfl; have y0 := kf.2.2.frozen 0; have y1 := kf.2.2.frozen 1; have y2 := kf.2.2.frozen 2; have y3 := kf.2.2.frozen 3; have y4 := kf.2.2.frozen 4; clear n5 kf))
  have q0 := f5b.at_ (i := 0) rfl
  clear HS HF6 HEND KF AC OC f3 f4 f5 f5b f5c nb3 hc3 hz3 b2 b3 B1 B3
  go_wp2_with fail
  exact bodyPost_ret (v := .tuple #[.agg #[.slice xA2 xr2.length xc2, .int .i64 (xl2 : Int), .int .i64 xh2, .int .i64 xs2, .int .i64 xe2], .bool true]) (by simp [results, Tryd.results19, go_sem, *]) rfl (HG.out _ _ _ _ _)
end Go.Proofs.YtpojlchikaffhaaDoor
