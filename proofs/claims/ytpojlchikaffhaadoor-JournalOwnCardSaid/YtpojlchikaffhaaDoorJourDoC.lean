/-
  The walk of the statements' do, where a log is synced.
-/
import Derived.Test.YtpojlchikaffhaaDoorJourDoB
namespace Go.Proofs.YtpojlchikaffhaaDoor
open Go.RowKit DiskP SumP PageP JourP

set_option maxHeartbeats 3200000 in
set_option maxRecDepth 100000 in
theorem do_sync (j : JL) (p : PJ) (x : XL) (dlt : Int) (a : ActR) (w : World) (base : Nat) (X : Nat → Prop) (h : BothJ w base X j x p dlt) (_hT : Tab w) (_hbase : base ≤ w.heap.size) (_hg : 0 < base) (hk : a.kind.toNat % 3 = 1) :
    Calls Tryd.prog 19 #[.pointer (some ⟨j.G, 0, none⟩), x.val, .agg a.cells.toArray] w (RetDo w base X j dlt p.sync) := by
  obtain ⟨a1, a2, a3, a4, a5, a6⟩ := h.asks
  obtain ⟨ak, ⟨rk, rA, rc, rb⟩, af⟩ := a
  simp only at hk
  obtain ⟨m1, m2⟩ := rem3 ak 1 hk
  have hxs := h.says
  have hX := h.ok
  have hjl : ∀ k, j.foot k → k < w.heap.size := fun k hk => (h.L.ok.foot_lt hk).2
  obtain ⟨xA, xc, xr, xl, xh, xs, xe⟩ := x
  have hb0 := ((Blk.new w 31 #[.slice xA xr.length xc, .int .i64 (xl : Int), .int .i64 xh, .int .i64 xs, .int .i64 xe]).alloc (.cells #[.int .u8 (ak.toNat : Int), .int .u8 (rk.toNat : Int), .slice rA rb.length rc, .int .u8 (af.toNat : Int)] 52)).alloc (.cells #[.slice none 0 0, .int .i64 0, .int .i64 0, .int .i64 0, .int .i64 0] 31)
  have hc0 := (Blk.new (w.alloc (.cells #[.slice xA xr.length xc, .int .i64 (xl : Int), .int .i64 xh, .int .i64 xs, .int .i64 xe] 31)) 52 #[.int .u8 (ak.toNat : Int), .int .u8 (rk.toNat : Int), .slice rA rb.length rc, .int .u8 (af.toNat : Int)]).alloc (.cells #[.slice none 0 0, .int .i64 0, .int .i64 0, .int .i64 0, .int .i64 0] 31)
  have hz0 := Blk.new ((w.alloc (.cells #[.slice xA xr.length xc, .int .i64 (xl : Int), .int .i64 xh, .int .i64 xs, .int .i64 xe] 31)).alloc (.cells #[.int .u8 (ak.toNat : Int), .int .u8 (rk.toNat : Int), .slice rA rb.length rc, .int .u8 (af.toNat : Int)] 52)) 31 #[.slice none 0 0, .int .i64 0, .int .i64 0, .int .i64 0, .int .i64 0]
  have B1 : Below w.heap.size w (((w.alloc (.cells #[.slice xA xr.length xc, .int .i64 (xl : Int), .int .i64 xh, .int .i64 xs, .int .i64 xe] 31)).alloc (.cells #[.int .u8 (ak.toNat : Int), .int .u8 (rk.toNat : Int), .slice rA rb.length rc, .int .u8 (af.toNat : Int)] 52)).alloc (.cells #[.slice none 0 0, .int .i64 0, .int .i64 0, .int .i64 0, .int .i64 0] 31)) := (((Below.refl _ _).alloc (Nat.le_refl _) _).alloc (by simp) _).alloc (by simp; omega) _
  simp only [World.size_alloc] at hc0 hz0
  have HM := Lib.hid h
  clear h
  show Calls Tryd.prog 19 #[.pointer (some ⟨j.G, 0, none⟩), .agg #[.slice xA xr.length xc, .int .i64 (xl : Int), .int .i64 xh, .int .i64 xs, .int .i64 xe], .agg #[.int .u8 (ak.toNat : Int), .int .u8 (rk.toNat : Int), .slice rA rb.length rc, .int .u8 (af.toNat : Int)]] w _
  go_enter Tryd.func19, Tryd.ntmps19
  go_wp2_with fail
  generalize (((w.alloc (.cells #[.slice xA xr.length xc, .int .i64 (xl : Int), .int .i64 xh, .int .i64 xs, .int .i64 xe] 31)).alloc (.cells #[.int .u8 (ak.toNat : Int), .int .u8 (rk.toNat : Int), .slice rA rb.length rc, .int .u8 (af.toNat : Int)] 52)).alloc (.cells #[.slice none 0 0, .int .i64 0, .int .i64 0, .int .i64 0, .int .i64 0] 31)) = w1 at *
  have hz1 := hz0.lt
  have hs1 := B1.size
  have SC : ∀ w', Calls Tryd.prog 41 #[.agg #[.slice xA xr.length xc, .int .i64 (xl : Int), .int .i64 xh, .int .i64 xs, .int .i64 xe]] w' fun e w'' => e = .returned (.agg #[.slice xA xr.length xc, .int .i64 (xr.length : Int), .int .i64 xh, .int .i64 xs, .int .i64 xe]) ∧ Below w'.heap.size w' w'' := fun w' => xsync_calls ⟨xA, xc, xr, xl, xh, xs, xe⟩ w'
  have hX1 : XOK w1 (fun k => j.foot k ∨ (X k ∨ k = w.heap.size + 1 + 1)) ⟨xA, xc, xr, xr.length, xh, xs, xe⟩ := by
    have := (hX.mono (G := fun k => j.foot k ∨ (X k ∨ k = w.heap.size + 1 + 1)) fun k hk hf => by
      rcases hf with hf | hf | hf
      · exact .inl hf
      · exact .inr hf
      · omega).below B1
    exact ⟨this.rd, this.cap, this.c63, this.ks⟩
  have hx2 : XSays ⟨xA, xc, xr, xr.length, xh, xs, xe⟩ j.y.size p.sync dlt := by
    have h1 := hxs.rs
    exact ⟨h1, by show xr.length = p.rs.length; rw [← h1, List.length_map], hxs.half, hxs.size, hxs.epoch⟩
  clear m1 m2 hX hxs a1 a2 a3 a4 a5 a6
  (with_reducible refine (SC _).mono ?_)
  clear SC
  rintro _ w2 ⟨rfl, b2⟩
  have B2 := B1.trans (b2.mono B1.size)
  have hz2 := hz0.below b2 hz1
  have JC := jsync_calls j p w2 base (HM.out.L.below B2)
  have HEND : Hid (∀ (w5 : World) (v0 v1 v2 v3 v4 : Value), NextJ w2 base j p.sync w5 → RetDo w base X j dlt p.sync (.returned (.tuple #[.agg #[.slice xA xr.length xc, .int .i64 (xr.length : Int), .int .i64 xh, .int .i64 xs, .int .i64 xe], .bool true])) (((((w5.setCell ⟨w.heap.size + 1 + 1, 0, none⟩ v0).setCell ⟨w.heap.size + 1 + 1, 1, none⟩ v1).setCell ⟨w.heap.size + 1 + 1, 2, none⟩ v2).setCell ⟨w.heap.size + 1 + 1, 3, none⟩ v3).setCell ⟨w.heap.size + 1 + 1, 4, none⟩ v4)) := by
    intro w5 v0 v1 v2 v3 v4 n
    have K : Kept (fun k => k = w.heap.size + 1 + 1) w5 (((((w5.setCell ⟨w.heap.size + 1 + 1, 0, none⟩ v0).setCell ⟨w.heap.size + 1 + 1, 1, none⟩ v1).setCell ⟨w.heap.size + 1 + 1, 2, none⟩ v2).setCell ⟨w.heap.size + 1 + 1, 3, none⟩ v3).setCell ⟨w.heap.size + 1 + 1, 4, none⟩ v4) :=
      (((((Kept.refl (fun k => k = w.heap.size + 1 + 1) w5).setCell (p := ⟨w.heap.size + 1 + 1, 0, none⟩) (.inl rfl) v0).setCell (p := ⟨w.heap.size + 1 + 1, 1, none⟩) (.inl rfl) v1).setCell (p := ⟨w.heap.size + 1 + 1, 2, none⟩) (.inl rfl) v2).setCell (p := ⟨w.heap.size + 1 + 1, 3, none⟩) (.inl rfl) v3).setCell (p := ⟨w.heap.size + 1 + 1, 4, none⟩) (.inl rfl) v4
    have hs2 := b2.size
    exact do_end (x' := ⟨xA, xc, xr, xr.length, xh, xs, xe⟩) HM.out B2 (fun k hk => by subst hk; omega) hx2 (hX1.below b2) n K
  have KF : Hid (∀ (w5 : World) (p' : PJ), NextJ w2 base j p' w5 → Blk w5 (w.heap.size + 1 + 1) 31 #[.slice none 0 0, .int .i64 0, .int .i64 0, .int .i64 0, .int .i64 0]) := by
    rintro w5 p' ⟨j', _, _, _, _, k5, _⟩
    have := b2.size
    exact (k5.block _ (by omega) (fun hk => by have := hjl _ hk; omega)).trans hz2
  clear hb0 hc0 hz0 hz2 hX1 hx2 HM B2 b2
  go_wp2_with fail
  (with_reducible refine JC.mono ?_)
  clear JC
  rintro _ w5 ⟨rfl, n5⟩
  have kf := KF.out w5 _ n5
  have HG := Lib.hid (fun v0 v1 v2 v3 v4 => HEND.out w5 v0 v1 v2 v3 v4 n5)
  have z0 : w5.cell? ⟨w.heap.size + 1 + 1, 0, none⟩ = some (.slice none 0 0) := kf.at_ rfl
  have z1 : w5.cell? ⟨w.heap.size + 1 + 1, 1, none⟩ = some (.int .i64 0) := kf.at_ rfl
  have z2 : w5.cell? ⟨w.heap.size + 1 + 1, 2, none⟩ = some (.int .i64 0) := kf.at_ rfl
  have z3 : w5.cell? ⟨w.heap.size + 1 + 1, 3, none⟩ = some (.int .i64 0) := kf.at_ rfl
  have z4 : w5.cell? ⟨w.heap.size + 1 + 1, 4, none⟩ = some (.int .i64 0) := kf.at_ rfl
  have y0 := kf.frozen 0
  have y1 := kf.frozen 1
  have y2 := kf.frozen 2
  have y3 := kf.frozen 3
  have y4 := kf.frozen 4
  clear KF HEND n5 kf
  go_wp2_with fail
  exact bodyPost_ret (v := .tuple #[.agg #[.slice xA xr.length xc, .int .i64 (xr.length : Int), .int .i64 xh, .int .i64 xs, .int .i64 xe], .bool true]) (by simp [results, Tryd.results19, go_sem, *]) rfl (HG.out _ _ _ _ _)
end Go.Proofs.YtpojlchikaffhaaDoor
