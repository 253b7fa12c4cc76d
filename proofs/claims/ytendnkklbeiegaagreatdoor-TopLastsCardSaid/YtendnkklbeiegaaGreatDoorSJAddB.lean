/-
  The walk of a log's Add, where there is room.
-/
import Derived.Test.YtendnkklbeiegaaGreatDoorMAK
namespace Go.Proofs.YtendnkklbeiegaaGreatDoor
open Go.RowKit DiskP SumP PageP JourP

/-- A log whose disk has one record more, and then its struct. -/
theorem JLog.added {w w4 w5 w7 w8 : World} {base : Nat} {j : JL} {p : PJ} {y' : Lay} {x : RecR} {xs : List RecR} {vx v8 : Value} (h : JLog w base j p) (hl : x.body.length ≤ 4000) (hr : 1 + sumNd j.y.size p.rs + x.abs.nd j.y.size ≤ p.half)
    (b4 : Below w.heap.size w w4) (h1 : y'.abs = putS j.y.abs ((p.b + pos j.y.abs.size p.rs p.rs.length : Nat) : Int) 82 (recMark p.e p.rs.length) x.abs.bytes) (h2 : y'.D = j.y.D) (h3 : JOK w5 base { j with y := y' }) (h5 : FootN w4 j { j with y := y' } w5)
    (b7 : Below w5.heap.size (w5.setCell ⟨j.G, 6, none⟩ (.int .i64 ((p.b + pos j.y.abs.size p.rs p.rs.length + x.abs.nd j.y.abs.size : Nat) : Int))) w7) (hx : xs.map RecR.abs = [x.abs]) (row : RowR w7 w5.heap.size (fun k => k < w5.heap.size) vx xs)
    (own8 : w8.ownsRow base 107 2 v8 (j.rs.length + xs.length) (rC j.rs ++ rC xs)) (gr : w7.grownBy w8 j.v.ownBlock) (hv : v8.ownBlock = j.v.ownBlock ∨ v8.ownBlock = some w7.heap.size) :
    NextJ w base j (p.add x.abs) (addD p j.y.abs x.abs) (w8.setCell ⟨j.G, 7, none⟩ v8) := by
  have hw := len_le_sum h.sizes.1 h.sizes.2.1 p.rs h.inv.base.small
  obtain ⟨z1, z2, z3, z4, z5, z6, z7, z8⟩ := h.sizes
  obtain ⟨i1, i2, i3⟩ := h.inv.add x.abs hl (by omega) hr
  rw [← h1] at i3
  have hz : y'.size = j.y.size := by
    have e : y'.abs.size = y'.size := rfl
    rw [← e, h1]
    unfold putS
    split <;> rfl
  have hll : y'.lp.length = j.y.lp.length := by
    refine Lay.last_len h1 ?_
    unfold putS
    split <;> rfl
  obtain ⟨s1, _⟩ := h3.setAt ((p.b + pos j.y.abs.size p.rs p.rs.length + x.abs.nd j.y.abs.size : Nat) : Int)
  have s2 := FootN.setAt h3 ((p.b + pos j.y.abs.size p.rs p.rs.length + x.abs.nd j.y.abs.size : Nat) : Int)
  have hsz : (w5.setCell ⟨j.G, 6, none⟩ (.int .i64 ((p.b + pos j.y.abs.size p.rs p.rs.length + x.abs.nd j.y.abs.size : Nat) : Int))).heap.size = w5.heap.size := by simp
  obtain ⟨t1, t2⟩ := s1.append (w3 := w7) (w4 := w8) (xs := xs) (v4 := v8) (by show Below _ (w5.setCell ⟨j.G, 6, none⟩ _) _; rw [hsz]; exact b7) (fun z hz => (row.ks z hz).mono fun k _ hk => .inr (by
    have := (s1.foot_lt hk).2
    exact Nat.lt_of_lt_of_eq this hsz)) own8 gr hv
  have hlen := h.len
  have fn := ((FootN.below (j := j) b4).trans h5).trans (s2.trans t2)
  have hw5 : w.heap.size ≤ w5.heap.size := Nat.le_trans b4.size h5.1.size
  refine ⟨_, ⟨t1, i3, h.u, h.ffrom, h.fhalf, ?_, h.fuse, h.fe, ?_, ?_⟩, rfl, h2, ⟨hz, hll⟩, fn.1, fn.2, fun X hX1 hX z hzz => ?_, h1⟩
  · rw [h.fsize]; exact congrArg (fun n : Nat => (n : Int)) hz.symm
  · show ((p.b + pos j.y.size p.rs p.rs.length + x.abs.nd j.y.size : Nat) : Int) = ((p.b + pos y'.size (p.rs ++ [x.abs]) (p.rs ++ [x.abs]).length : Nat) : Int)
    rw [hz, pos_all, pos_all, sumNd_append, sumNd_one]
    omega
  · show (j.rs ++ xs).map RecR.abs = p.rs ++ [x.abs]
    rw [List.map_append, h.frs, hx]
  · have hb := t1.body z hzz
    rcases List.mem_append.1 hzz with hzz | hzz
    · exact RecOK.stay h.ok hzz (hX z hzz) fn.1
    · exact ((row.ks z hzz).cross hb).mono fun k _ hk => .inl (.inr (by have := hX1 k hk; omega))
/-- One record, copied. -/
def RetOne (w : World) (x : RecR) (e : Ending) (w' : World) : Prop := ∃ A c xs, e = .returned (.slice A 1 c) ∧ xs.length = 1 ∧ xs.map RecR.abs = [x.abs] ∧ RowR w' w.heap.size (fun k => k < w.heap.size) (.slice A 1 c) xs ∧ Below w.heap.size w w'
theorem RowR.lower {w : World} {base b : Nat} {F G : Nat → Prop} {v : Value} {rs : List RecR} (h : RowR w base F v rs) (hb : b ≤ base) (hG : ∀ k, k < w.heap.size → G k → F k) : RowR w b G v rs :=
  ⟨own_mono h.own hb, fun x hx => (h.ks x hx).mono fun k hk hg => hg.imp id (hG k hk)⟩
theorem RecOK.drew {w : World} {F : Nat → Prop} {x : RecR} (h : RecOK w F x) : RecOK w.drew F x := ⟨h.rd, h.cap, h.c63⟩
theorem jcopied_one (x : RecR) (w : World) (hx : RecOK w (fun _ => False) x) (hs : x.body.length ≤ 1000000) :
    Calls Tryz.prog 77 #[.slice (some ⟨w.heap.size, 0, none⟩) 1 1] (w.alloc (.cells #[.int .u8 (x.kind.toNat : Int), .slice x.A x.body.length x.cap] 107)) (RetOne w x) := by
  have B1 : Below w.heap.size w (w.alloc (.cells #[.int .u8 (x.kind.toNat : Int), .slice x.A x.body.length x.cap] 107)) := (Below.refl _ _).alloc (Nat.le_refl _) _
  have rv : RV (w.alloc (.cells #[.int .u8 (x.kind.toNat : Int), .slice x.A x.body.length x.cap] 107)) (some ⟨w.heap.size, 0, none⟩) (rC [x]) := RV.new w (rC [x]) 107 (0, 0)
  refine (jcopied_calls [x] (some ⟨w.heap.size, 0, none⟩) 1 _ rv (fun y hy => ?_) (fun y hy => ?_) (by simp)).mono ?_
  · simp at hy; subst hy; exact hx.below B1
  · simp at hy; subst hy; exact hs
  · rintro e w' ⟨v, xs, rfl, h1, h2, h3, h4⟩
    have h5 := h3.own
    rw [h1] at h5
    obtain ⟨A, c, rfl, _, _⟩ := own_form h5
    have hsz := B1.size
    exact ⟨A, c, xs, rfl, h1, h2, h3.lower hsz (fun k _ hk => by omega), B1.trans (h4.mono hsz)⟩
set_option maxHeartbeats 3200000 in
set_option maxRecDepth 100000 in
theorem jadd_ok (j : JL) (p : PJ) (x : RecR) (w : World) (base : Nat) (h : JLog w base j p) (hT : Tab w) (hbase : base ≤ w.heap.size) (hg : 2 < base) (hx : RecOK w j.foot x) (hl : x.body.length ≤ 4000) (hr : 1 + sumNd j.y.size p.rs + x.abs.nd j.y.size ≤ p.half) (hw : j.y.wp.length ≤ 65536) :
    Calls Tryz.prog 103 #[.pointer (some ⟨j.G, 0, none⟩), .agg #[.int .u8 (x.kind.toNat : Int), .slice x.A x.body.length x.cap]] w (RetJ w base j 0 (p.add x.abs) (addD p j.y.abs x.abs)) := by
  have d1 : decide (4000 < (x.body.length : Int)) = false := decide_eq_false (by omega)
  have B1 : Below w.heap.size w (w.alloc (.cells #[.int .u8 (x.kind.toNat : Int), .slice x.A x.body.length x.cap] 107)) := (Below.refl _ _).alloc (Nat.le_refl _) _
  have NC := fun w1 (hb : Below w.heap.size w w1) => jneed_calls j x.kind x.A x.body.length x.cap w1 base (h.ok.below hb) (by omega)
  have LC := fun w1 (hb : Below w.heap.size w w1) => jleft_calls j p w1 base (h.below hb)
  have HN := (h.nd x (by omega)).1
  have HN1 := (h.nd x (by omega)).2
  rw [HN] at NC
  have d2 : decide (leftN j.y.size p < (x.abs.nd j.y.size : Int)) = false := decide_eq_false (by unfold leftN; omega)
  have hlen := h.len
  obtain ⟨z1, z2, z3, z4, z5, z6, z7, z8⟩ := h.sizes
  have d3 : ((j.rs.length : Int) == 1000000) = false := by simp; omega
  have hle : j.rs.length ≤ 65536 := by omega
  have Hlen := Lib.hid hlen
  clear hlen
  have b1 := (Blk.new w 107 #[.int .u8 (x.kind.toNat : Int), .slice x.A x.body.length x.cap])
  have hlt1 := b1.lt
  generalize leftN j.y.size p = lf at d2 LC
  clear HN
  obtain ⟨AV, cV, hv, _, _⟩ := own_form h.ok.kp.row.own
  go_enter Tryz.func103, Tryz.ntmps103
  go_wp2_with fail
  refine (NC _ B1).mono ?_
  clear NC
  rintro e w2 ⟨rfl, b2⟩
  have B2 := B1.trans (b2.mono B1.size)
  have bb2 := b1.below b2 hlt1
  have lt2 := bb2.lt
  have hJ2 := h.ok.below B2
  have gk2 := hJ2.gk
  unfold JL.cells at gk2
  rw [hv] at gk2
  have c7 : w2.cell? ⟨j.G, 7, none⟩ = some (.slice AV j.rs.length cV) := gk2.at_ rfl
  clear b1 B1 b2
  go_wp2_with fail
  refine (LC _ B2).mono ?_
  clear LC
  rintro e w3 ⟨rfl, q, rfl⟩
  have B3 : Below w.heap.size w (w2.drewN q) := ⟨B2.os, B2.tape, B2.output, B2.size, B2.block⟩
  have bb3 : Blk (w2.drewN q) w.heap.size 107 #[.int .u8 (x.kind.toNat : Int), .slice x.A x.body.length x.cap] := bb2
  have gk3 : Blk (w2.drewN q) j.G 168 #[.pointer (some ⟨j.y.D, 0, none⟩), .int .i64 j.from_, .int .i64 j.half, .int .i64 j.size, .int .i64 j.use, .int .i64 j.epoch, .int .i64 j.at_, .slice AV j.rs.length cV] := gk2
  clear hJ2 gk2 bb2
  go_wp2_with fail
  generalize w2.drewN q = w3 at *
  obtain ⟨a, ha⟩ : ∃ a : Nat, a = p.b + pos j.y.abs.size p.rs p.rs.length := ⟨_, rfl⟩
  have hfat : j.at_ = (a : Int) := by rw [h.fat, ha]; rfl
  rw [hfat, h.fe] at gk3
  have he6 := h.inv.base.e6
  have hnb : x.abs.nd j.y.abs.size ≤ 65536 := by have e : x.abs.nd j.y.abs.size = x.abs.nd j.y.size := rfl; omega
  have hpl : a ≤ 200000 := by have := pos_all j.y.size p.rs; have e : pos j.y.abs.size p.rs p.rs.length = pos j.y.size p.rs p.rs.length := rfl; omega
  have hJ3 := h.ok.below B3
  have hd3 := hJ3.dk
  have T3 := hT.below B3
  have hs3 := B3.size
  have xr3 : RB w3.drew x.A x.body := (hx.below B3).rd.rv
  have hcap := hx.cap
  have hbl : x.abs.bytes.length = 1 + x.body.length := x.abs.bytes_len
  have BC := jbytes_calls x w3.drew xr3 (by omega)
  obtain ⟨i1, i2, i3⟩ := h.inv.add x.abs hl (by have := Hlen.out; omega) hr
  rw [← ha] at i1 i2
  have PC := fun (w4 : World) (A4 : Option Addr) (c4 : Nat) (b4 : Below w3.heap.size w3 w4) (o4 : w4.ownsRow w3.heap.size 5 1 (.slice A4 x.abs.bytes.length c4) x.abs.bytes.length (cB x.abs.bytes)) =>
    pput_calls j.y (a : Int) 82 (recMark p.e p.rs.length) x.abs.bytes A4 c4 w4 base (hd3.below b4) (T3.below b4) (by have := b4.size; omega) (own_rvf o4 (fun k hk => .inl (hd3.foot_lt hk).2)) (by obtain ⟨_, _, e, h1, h2⟩ := own_form o4; injection e with _ _ e; omega) (by obtain ⟨_, _, e, h1, h2⟩ := own_form o4; injection e with _ _ e; unfold maxLen at h2; omega) (by omega) hg
  have e82 : (((82 : UInt8).toNat : Nat) : Int) = 82 := rfl
  rw [i1, i2, e82] at PC
  have s1 : IntKind.i64.wrap ((p.e : Int) * 1048576) = (p.e : Int) * 1048576 := by rw [IntKind.wrap_i64]; omega
  have s2 : IntKind.i64.wrap ((p.e : Int) * 1048576 + (j.rs.length : Int)) = (p.e : Int) * 1048576 + (j.rs.length : Int) := by rw [IntKind.wrap_i64]; omega
  have s3 : IntKind.i64.wrap ((p.e : Int) * 1048576 + (j.rs.length : Int) + 1) = recMark p.e p.rs.length := by rw [IntKind.wrap_i64, ← Hlen.out]; unfold recMark; omega
  have HS : Hid (∀ wq, Blk wq w.heap.size 107 #[.int .u8 (x.kind.toNat : Int), .slice x.A x.body.length x.cap] → Blk wq j.G 168 #[.pointer (some ⟨j.y.D, 0, none⟩), .int .i64 j.from_, .int .i64 j.half, .int .i64 j.size, .int .i64 j.use, .int .i64 (p.e : Int), .int .i64 (a : Int), .slice AV j.rs.length cV] →
      (wq.cell? ⟨w.heap.size, 0, none⟩ = some (.int .u8 (x.kind.toNat : Int)) ∧ wq.cell? ⟨w.heap.size, 1, none⟩ = some (.slice x.A x.body.length x.cap) ∧ wq.cell? ⟨j.G, 0, none⟩ = some (.pointer (some ⟨j.y.D, 0, none⟩)) ∧ wq.cell? ⟨j.G, 5, none⟩ = some (.int .i64 (p.e : Int)) ∧ wq.cell? ⟨j.G, 6, none⟩ = some (.int .i64 (a : Int)) ∧ wq.cell? ⟨j.G, 7, none⟩ = some (.slice AV j.rs.length cV))) :=
    fun wq h1 h2 => ⟨h1.at_ rfl, h1.at_ rfl, h2.at_ rfl, h2.at_ rfl, h2.at_ rfl, h2.at_ rfl⟩
  have f3 := HS.out w3.drew bb3 gk3
  have HI := Lib.hid i3
  have HA := Lib.hid ha
  have HV := Lib.hid hv
  have HBL := Lib.hid hbl
  clear i1 i2 i3 ha hfat hv hbl e82 d1 d2 d3
  go_region_held (fun wq => wq.cell? ⟨w.heap.size, 0, none⟩ = some (.int .u8 (x.kind.toNat : Int)) ∧ wq.cell? ⟨w.heap.size, 1, none⟩ = some (.slice x.A x.body.length x.cap) ∧ wq.cell? ⟨j.G, 0, none⟩ = some (.pointer (some ⟨j.y.D, 0, none⟩)) ∧ wq.cell? ⟨j.G, 5, none⟩ = some (.int .i64 (p.e : Int)) ∧ wq.cell? ⟨j.G, 6, none⟩ = some (.int .i64 (a : Int)) ∧ wq.cell? ⟨j.G, 7, none⟩ = some (.slice AV j.rs.length cV)) (first | exact f3 | exact f4 | exact f5) (first
    | (go_at_call 121; (with_reducible refine BC.mono ?_); rintro e w4 ⟨A4, c4, rfl, o4z, b4z⟩; have o4 : w4.ownsRow w3.heap.size 5 1 (.slice A4 x.abs.bytes.length c4) x.abs.bytes.length (cB x.abs.bytes) := o4z; have b4 : Below w3.heap.size w3 w4 := ⟨b4z.os, b4z.tape, b4z.output, b4z.size, b4z.block⟩; clear o4z b4z; have bb4 := bb3.below b4 bb3.lt; have gk4 := gk3.below b4 gk3.lt; have f4 := HS.out w4 bb4 gk4)
    | (go_at_call 66; (with_reducible refine (PC w4 A4 c4 b4 o4).mono ?_); rintro e w5 ⟨rfl, n5⟩; obtain ⟨y', y1, y2, J5, K5, F5⟩ := (hJ3.below b4).disk n5; have bb5 : Blk w5 w.heap.size 107 #[.int .u8 (x.kind.toNat : Int), .slice x.A x.body.length x.cap] := (K5.block _ bb4.lt (fun hk => by have := (h.ok.dk.foot_lt hk).2; omega)).trans bb4; have gk5 : Blk w5 j.G 168 #[.pointer (some ⟨j.y.D, 0, none⟩), .int .i64 j.from_, .int .i64 j.half, .int .i64 j.size, .int .i64 j.use, .int .i64 (p.e : Int), .int .i64 (a : Int), .slice AV j.rs.length cV] := (K5.block _ gk4.lt h.ok.gy).trans gk4; have f5 := HS.out w5 bb5 gk5; have fn5 := FootN.disk (j := j) K5 F5; have Y1 := Lib.hid y1; have Y2 := Lib.hid y2; clear y1 y2 n5 K5 F5 f4 o4 gk4 bb4))
  clear BC PC HS f3 s1 s2 s3
  have c6 : w5.cell? ⟨j.G, 6, none⟩ = some (.int .i64 (a : Int)) := gk5.at_ rfl
  have fz6 := gk5.frozen 6
  go_wp2_with fail
  have B4 : Below w.heap.size w w4 := B3.trans (b4.mono B3.size)
  obtain ⟨s1, _⟩ := J5.setAt ((a : Int) + (x.abs.nd j.y.abs.size : Int))
  have s2 := FootN.setAt J5 ((a : Int) + (x.abs.nd j.y.abs.size : Int))
  have fn6 := ((FootN.below (j := j) B4).trans fn5).trans s2
  have hx6 : RecOK (w5.setCell ⟨j.G, 6, none⟩ (.int .i64 ((a : Int) + (x.abs.nd j.y.abs.size : Int)))) (fun _ => False) x := hx.next fn6.1 (fun _ _ hk => hk.elim)
  have gk6 : Blk (w5.setCell ⟨j.G, 6, none⟩ (.int .i64 ((a : Int) + (x.abs.nd j.y.abs.size : Int)))) j.G 168 #[.pointer (some ⟨j.y.D, 0, none⟩), .int .i64 j.from_, .int .i64 j.half, .int .i64 j.size, .int .i64 j.use, .int .i64 (p.e : Int), .int .i64 ((a : Int) + (x.abs.nd j.y.abs.size : Int)), .slice AV j.rs.length cV] := gk5.set_ 6 _
  have hGB : j.G ≠ w.heap.size := by have := h.ok.gk.lt; omega
  have bb6 := bb5.far (p := ⟨j.G, 6, none⟩) (Ne.symm hGB) (.int .i64 ((a : Int) + (x.abs.nd j.y.abs.size : Int)))
  have row6 := s1.kp.row.own
  simp only [HV.out] at row6
  have hs5 : (w5.setCell ⟨j.G, 6, none⟩ (.int .i64 ((a : Int) + (x.abs.nd j.y.abs.size : Int)))).heap.size = w5.heap.size := by simp
  have hvG : (Value.slice AV j.rs.length cV).ownBlock ≠ some j.G := by rw [← HV.out]; exact h.ok.kp.gv
  have hvB : (Value.slice AV j.rs.length cV).ownBlock ≠ some w.heap.size := by rw [← HV.out]; intro e; have := (h.ok.kp.row.own.lt _ e).2; omega
  have hbs : base ≤ w5.heap.size := by have h1 : w.heap.size ≤ (w5.setCell ⟨j.G, 6, none⟩ (.int .i64 ((a : Int) + (x.abs.nd j.y.abs.size : Int)))).heap.size := fn6.1.size; rw [hs5] at h1; omega
  have HP : Hid (∀ (w7 w8 : World) (vx v8 : Value) (xs : List RecR), Below w5.heap.size (w5.setCell ⟨j.G, 6, none⟩ (.int .i64 ((a : Int) + (x.abs.nd j.y.abs.size : Int)))) w7 → xs.map RecR.abs = [x.abs] → xs.length = 1 → RowR w7 w5.heap.size (fun k => k < w5.heap.size) vx xs →
      w8.ownsRow base 107 2 v8 (j.rs.length + 1) (rC j.rs ++ rC xs) → w7.grownBy w8 (Value.slice AV j.rs.length cV).ownBlock → (v8.ownBlock = (Value.slice AV j.rs.length cV).ownBlock ∨ v8.ownBlock = some w7.heap.size) → RetJ w base j 0 (p.add x.abs) (addD p j.y.abs x.abs) (.returned (.int .i64 0)) (w8.setCell ⟨j.G, 7, none⟩ v8)) := by
    intro w7 w8 vx v8 xs b7 hx1 hx2 row own8 gr8 hv8
    rw [← HV.out] at gr8 hv8
    have y1 := Y1.out
    rw [HA.out] at y1 b7
    refine ⟨rfl, JLog.added h hl hr B4 y1 Y2.out J5 fn5 ?_ hx1 row (by rw [hx2]; exact own8) gr8 hv8⟩
    rw [Int.natCast_add]
    exact b7
  have CC := jcopied_one x _ hx6.drew (by omega)
  clear hx6 fn6 s2 s1 fn5 f5 hx hT h J5 gk5 bb5 gk3 bb3 hd3 hJ3 T3 hr hnb c6 fz6 c7 xr3 B2 B4 b4 HI HA HBL Y1 Y2
  rw [← hs5] at HP
  clear hs5
  generalize (w5.setCell ⟨j.G, 6, none⟩ (.int .i64 ((a : Int) + (x.abs.nd j.y.abs.size : Int)))) = w6 at *
  have CC' : Calls Tryz.prog 77 #[.slice (some ⟨w6.heap.size, 0, none⟩) 1 1] ((w6.alloc (.cells #[.int .u8 (x.kind.toNat : Int), .slice x.A x.body.length x.cap] 107)).drew) (RetOne w6.drew x) := CC
  clear CC
  have KB : Hid (∀ w7, Below w6.heap.size w6 w7 → Blk w7 j.G 168 #[.pointer (some ⟨j.y.D, 0, none⟩), .int .i64 j.from_, .int .i64 j.half, .int .i64 j.size, .int .i64 j.use, .int .i64 (p.e : Int), .int .i64 ((a : Int) + (x.abs.nd j.y.abs.size : Int)), .slice AV j.rs.length cV] ∧ Blk w7 w.heap.size 107 #[.int .u8 (x.kind.toNat : Int), .slice x.A x.body.length x.cap] ∧ w7.ownsRow base 107 2 (.slice AV j.rs.length cV) j.rs.length (rC j.rs)) :=
    fun w7 b => ⟨gk6.below b gk6.lt, bb6.below b bb6.lt, own_below row6 b fun k hk => (row6.lt k hk).2⟩
  have q7 : w6.cell? ⟨j.G, 7, none⟩ = some (.slice AV j.rs.length cV) := gk6.at_ rfl
  have q7a : ∀ o, (w6.alloc o).cell? ⟨j.G, 7, none⟩ = some (.slice AV j.rs.length cV) := fun o => (gk6.alloc o).at_ rfl
  have e0 : w6.cell? ⟨w.heap.size, 0, none⟩ = some (.int .u8 (x.kind.toNat : Int)) := bb6.at_ rfl
  have e1 : w6.cell? ⟨w.heap.size, 1, none⟩ = some (.slice x.A x.body.length x.cap) := bb6.at_ rfl
  have hb6 := Nat.le_trans hbs (Nat.le_refl _)
  have hlG := gk6.lt
  have hlB := bb6.lt
  clear gk6 bb6 row6
  go_region_law (first
    | (go_simp; go_at_call 77; refine CC'.mono ?_; rintro e w7 ⟨A7, c7, xs, rfl, hxl, hxm, row7z, b7z⟩; have b7 : Below w6.heap.size w6 w7 := ⟨b7z.os, b7z.tape, b7z.output, b7z.size, b7z.block⟩; have row7 : RowR w7 w6.heap.size (fun k => k < w6.heap.size) (.slice A7 1 c7) xs := row7z; clear row7z b7z; have own7 := row7.own; rw [hxl] at own7; have rv7 := (own_rvfN (F := fun _ => False) own7 (fun _ hk => hk.elim)).rv; have u7 : w7.cell? ⟨j.G, 7, none⟩ = some (.slice AV j.rs.length cV) := (KB.out w7 b7).1.at_ rfl; have hrl := rC_len xs; have Hxl := Lib.hid hxl; have Hxm := Lib.hid hxm; clear hxm)
    | (refine step_append_rv (A := A7) (m := 1) (c := c7) (v := .slice AV j.rs.length cV) (n := j.rs.length) (base := base) (xs := rC j.rs) (news := rC xs) el_rec rfl (.tmp 70) (.tmp 73) rfl rfl (KB.out w7 b7).2.2 rfl (by rw [hrl, hxl]) rv7 (rC_one _) (by unfold maxLen; omega) (by omega) (by have := b7.size; omega) ?_; intro v8 w8 own8 gr8 hv8; have HC := Lib.hid (HP.out w7 w8 _ v8 xs b7 Hxm.out Hxl.out row7 own8 gr8 hv8); have g8 : Blk w8 j.G 168 #[.pointer (some ⟨j.y.D, 0, none⟩), .int .i64 j.from_, .int .i64 j.half, .int .i64 j.size, .int .i64 j.use, .int .i64 (p.e : Int), .int .i64 ((a : Int) + (x.abs.nd j.y.abs.size : Int)), .slice AV j.rs.length cV] := (gr8.block j.G (by have := b7.size; omega) (fun e => hvG e.symm)).trans (KB.out w7 b7).1; (obtain ⟨A8, c8, hv8f, _, _⟩ := own_form own8); subst hv8f; have z7 : w8.cell? ⟨j.G, 7, none⟩ = some (.slice AV j.rs.length cV) := g8.at_ rfl; have zf := g8.frozen 7; clear g8 own8 gr8 hv8 row7 own7 rv7 u7))
  all_goals
    clear HP KB CC'
    go_wp2
    go_ret
    exact HC.out
end Go.Proofs.YtendnkklbeiegaaGreatDoor
