/-
  The walk of play: a write of so many bytes.
-/
import Derived.Test.YtmemkoiooanhkaaRefPlay
import Derived.Deep.RegionHeld
namespace Go.Proofs.Ytmemkoiooanhkaa
open Go.RowKit DiskP

set_option maxHeartbeats 3200000 in
set_option maxRecDepth 100000 in
theorem play_5a (a : ActR) (y : Lay) (m : Ref) (w : World) (base : Nat) (h : DiskOK w base y) (X : Nat → Prop) (hX : ∀ k, X k → k < w.heap.size) (hr : RefOK w (fun k => y.foot k ∨ X k) m y.abs) (hw : y.wp.length ≤ 1000) (hb : base ≤ w.heap.size) (ha : ActOK w a) (hK : RVF w y.foot a.ka (cL a.keep)) (hk0 : a.kind ≠ 0) (hk1 : a.kind ≠ 1) (hk2 : a.kind ≠ 2) (hk3 : a.kind ≠ 3) (hk4 : a.kind ≠ 4) (t : Nat) (ht : t ≤ 100) (htc : a.torn < 0) (ht0 : t = 0) :
    Calls Try.prog 21 #[.pointer (some ⟨y.D, 0, none⟩), m.val y.abs.size y.abs.off, .agg #[.int .i64 a.kind, .int .i64 a.n, .int .i64 a.torn, .int .u8 (a.b.toNat : Int), .slice a.ka a.keep.length a.kc]] w (RetPlay X w base y) := by
  have hfl : ∀ k, y.foot k → k < w.heap.size := fun k hk => (h.foot_lt hk).2
  have r0 : RefOK w (fun k => (y.foot k ∨ X k) ∨ w.heap.size ≤ k) m y.abs := hr.mono fun k hk hg => by rcases hg with hg | hg; exact hg; omega
  have hs1 := h.s1
  have hs2 := h.s2
  have hwl : y.abs.wait.length ≤ 1000 := by rw [← wlen]; exact hw
  have hwe : y.abs.wait.length = y.wp.length := (wlen y).symm
  have HWE := Lib.hid hwe
  clear hwe
  obtain ⟨AL, kL, L, AW, kW, W⟩ := m
  have hki1 := ha.k1
  have hki2 := ha.k2
  have hn1 := ha.n1
  have hn2 := ha.n2
  have ht1 := ha.t1
  have ht2 := ha.t2
  have hkl := ha.l2
  have hzz : y.abs.size = y.size := rfl
  unfold Ref.val
  simp only
  rw [hzz]
  have RC : ∀ {f : FuncId} {xs : List Value} {w2 : World} {Q : Ending → World → Prop}, Calls Try.prog f ((Ref.val ⟨AL, kL, L, AW, kW, W⟩ y.abs.size y.abs.off :: xs).toArray) w2 Q → Calls Try.prog f ((.agg #[.int .i64 (y.size : Int), .slice AL L.length kL, .slice AW W.length kW, .bool y.abs.off] :: xs).toArray) w2 Q := fun h => h
  generalize hov : y.abs.off = ov at RC ⊢
  have HOV := Lib.hid hov
  have HRC : Hid (∀ {f : FuncId} {xs : List Value} {w2 : World} {Q : Ending → World → Prop}, Calls Try.prog f ((Ref.val ⟨AL, kL, L, AW, kW, W⟩ y.abs.size y.abs.off :: xs).toArray) w2 Q → Calls Try.prog f ((.agg #[.int .i64 (y.size : Int), .slice AL L.length kL, .slice AW W.length kW, .bool ov] :: xs).toArray) w2 Q) := by
    show ∀ {f : FuncId} {xs : List Value} {w2 : World} {Q : Ending → World → Prop}, Calls Try.prog f ((Ref.val ⟨AL, kL, L, AW, kW, W⟩ y.abs.size y.abs.off :: xs).toArray) w2 Q → Calls Try.prog f ((.agg #[.int .i64 (y.size : Int), .slice AL L.length kL, .slice AW W.length kW, .bool ov] :: xs).toArray) w2 Q
    rw [← HOV.out]
    exact fun h => h
  clear hov hr ha RC hzz
  have e0 : (a.kind == 0) = false := by simpa using hk0
  have e1 : (a.kind == 1) = false := by simpa using hk1
  have e2 : (a.kind == 2) = false := by simpa using hk2
  have e3 : (a.kind == 3) = false := by simpa using hk3
  have e4 : (a.kind == 4) = false := by simpa using hk4
  clear hk0 hk1 hk2 hk3 hk4
  have HT0 := Lib.hid ht0
  clear ht0
  go_enter Try.func21, Try.ntmps21
  go_wp2_with fail
  have B1 : Below w.heap.size w (((w.alloc (.cells #[.int .i64 (y.size : Int), .slice AL L.length kL, .slice AW W.length kW, .bool ov] 51)).alloc (.cells #[.int .i64 a.kind, .int .i64 a.n, .int .i64 a.torn, .int .u8 (a.b.toNat : Int), .slice a.ka a.keep.length a.kc] 31)).alloc (.cells #[.int .i64 0, .slice none 0 0, .slice none 0 0, .bool false] 51)) := (((Below.refl _ _).alloc (Nat.le_refl _) _).alloc (by simp) _).alloc (by simp; omega) _
  refine (size_calls y _ base (h.below B1)).mono ?_
  rintro e w1 ⟨rfl, q1, rfl⟩
  have h1 : DiskOK ((((w.alloc (.cells #[.int .i64 (y.size : Int), .slice AL L.length kL, .slice AW W.length kW, .bool ov] 51)).alloc (.cells #[.int .i64 a.kind, .int .i64 a.n, .int .i64 a.torn, .int .u8 (a.b.toNat : Int), .slice a.ka a.keep.length a.kc] 31)).alloc (.cells #[.int .i64 0, .slice none 0 0, .slice none 0 0, .bool false] 51)).drewN q1) base y := (h.below B1).frame fun _ _ => rfl
  have x1 : Blk ((((w.alloc (.cells #[.int .i64 (y.size : Int), .slice AL L.length kL, .slice AW W.length kW, .bool ov] 51)).alloc (.cells #[.int .i64 a.kind, .int .i64 a.n, .int .i64 a.torn, .int .u8 (a.b.toNat : Int), .slice a.ka a.keep.length a.kc] 31)).alloc (.cells #[.int .i64 0, .slice none 0 0, .slice none 0 0, .bool false] 51)).drewN q1) w.heap.size 51 #[.int .i64 (y.size : Int), .slice AL L.length kL, .slice AW W.length kW, .bool ov] := ((Blk.new w _ _).alloc _).alloc _
  have t1 : Blk ((((w.alloc (.cells #[.int .i64 (y.size : Int), .slice AL L.length kL, .slice AW W.length kW, .bool ov] 51)).alloc (.cells #[.int .i64 a.kind, .int .i64 a.n, .int .i64 a.torn, .int .u8 (a.b.toNat : Int), .slice a.ka a.keep.length a.kc] 31)).alloc (.cells #[.int .i64 0, .slice none 0 0, .slice none 0 0, .bool false] 51)).drewN q1) (w.heap.size + 1) 31 #[.int .i64 a.kind, .int .i64 a.n, .int .i64 a.torn, .int .u8 (a.b.toNat : Int), .slice a.ka a.keep.length a.kc] := by
    have := (Blk.new (w.alloc (.cells #[.int .i64 (y.size : Int), .slice AL L.length kL, .slice AW W.length kW, .bool ov] 51)) 31 #[.int .i64 a.kind, .int .i64 a.n, .int .i64 a.torn, .int .u8 (a.b.toNat : Int), .slice a.ka a.keep.length a.kc]).alloc (.cells #[.int .i64 0, .slice none 0 0, .slice none 0 0, .bool false] 51)
    rw [World.size_alloc] at this
    exact this
  have z1 : Blk ((((w.alloc (.cells #[.int .i64 (y.size : Int), .slice AL L.length kL, .slice AW W.length kW, .bool ov] 51)).alloc (.cells #[.int .i64 a.kind, .int .i64 a.n, .int .i64 a.torn, .int .u8 (a.b.toNat : Int), .slice a.ka a.keep.length a.kc] 31)).alloc (.cells #[.int .i64 0, .slice none 0 0, .slice none 0 0, .bool false] 51)).drewN q1) (w.heap.size + 1 + 1) 51 #[.int .i64 0, .slice none 0 0, .slice none 0 0, .bool false] := by
    have := Blk.new ((w.alloc (.cells #[.int .i64 (y.size : Int), .slice AL L.length kL, .slice AW W.length kW, .bool ov] 51)).alloc (.cells #[.int .i64 a.kind, .int .i64 a.n, .int .i64 a.torn, .int .u8 (a.b.toNat : Int), .slice a.ka a.keep.length a.kc] 31)) 51 #[.int .i64 0, .slice none 0 0, .slice none 0 0, .bool false]
    rw [World.size_alloc, World.size_alloc] at this
    exact this
  have b1 : Below w.heap.size w ((((w.alloc (.cells #[.int .i64 (y.size : Int), .slice AL L.length kL, .slice AW W.length kW, .bool ov] 51)).alloc (.cells #[.int .i64 a.kind, .int .i64 a.n, .int .i64 a.torn, .int .u8 (a.b.toNat : Int), .slice a.ka a.keep.length a.kc] 31)).alloc (.cells #[.int .i64 0, .slice none 0 0, .slice none 0 0, .bool false] 51)).drewN q1) := ⟨B1.os, B1.tape, B1.output, B1.size, B1.block⟩
  generalize (((w.alloc (.cells #[.int .i64 (y.size : Int), .slice AL L.length kL, .slice AW W.length kW, .bool ov] 51)).alloc (.cells #[.int .i64 a.kind, .int .i64 a.n, .int .i64 a.torn, .int .u8 (a.b.toNat : Int), .slice a.ka a.keep.length a.kc] 31)).alloc (.cells #[.int .i64 0, .slice none 0 0, .slice none 0 0, .bool false] 51)).drewN q1 = w1 at h1 x1 t1 z1 b1 ⊢
  clear q1 B1
  have r1 := r0.below b1
  have hK1 := hK.below b1
  have l1 : w.heap.size + 3 ≤ w1.heap.size := z1.lt
  have a0 : w1.cell? ⟨w.heap.size + 1, 0, none⟩ = some (.int .i64 a.kind) := t1.at_ rfl
  have a1 : w1.cell? ⟨w.heap.size + 1, 1, none⟩ = some (.int .i64 a.n) := t1.at_ rfl
  have a2 : w1.cell? ⟨w.heap.size + 1, 2, none⟩ = some (.int .i64 a.torn) := t1.at_ rfl
  have a3 : w1.cell? ⟨w.heap.size + 1, 3, none⟩ = some (.int .u8 (a.b.toNat : Int)) := t1.at_ rfl
  have a4 : w1.cell? ⟨w.heap.size + 1, 4, none⟩ = some (.slice a.ka a.keep.length a.kc) := t1.at_ rfl
  clear r0
  have FC := filled_calls t a.b w1 (by omega)
  rw [show ((t : Nat) : Int) = 0 by rw [HT0.out]; rfl] at FC
  go_wp2_with fail
  refine FC.mono ?_
  clear FC
  rintro e wf ⟨gf, rfl, of_, bf⟩
  rw [List.length_replicate] at of_
  rw [List.length_replicate]
  have g1 : RVF wf y.foot (some ⟨gf, 0, none⟩) (cB (List.replicate t a.b)) := RVF.of_own of_ (fun k hk => by have := hfl k hk; omega)
  have hf1 := h1.below bf
  have xf := x1.below bf x1.lt
  have tf := t1.below bf t1.lt
  have zf := z1.below bf z1.lt
  have bf' : Below w.heap.size w wf := b1.trans (bf.mono b1.size)
  have rf1 := r1.below bf
  have hKf := hK1.below bf
  have lf : w.heap.size + 3 ≤ wf.heap.size := zf.lt
  clear h1 x1 t1 z1 b1 r1 hK1 bf of_ a0 a1 a2 a3 a4
  have h1 := hf1
  have x1 := xf
  have t1 := tf
  have z1 := zf
  have b1 := bf'
  have r1 := rf1
  have hK1 := hKf
  clear hf1 xf tf zf bf' rf1 hKf
  have a0 : wf.cell? ⟨w.heap.size + 1, 0, none⟩ = some (.int .i64 a.kind) := t1.at_ rfl
  have a1 : wf.cell? ⟨w.heap.size + 1, 1, none⟩ = some (.int .i64 a.n) := t1.at_ rfl
  have a2 : wf.cell? ⟨w.heap.size + 1, 2, none⟩ = some (.int .i64 a.torn) := t1.at_ rfl
  have a3 : wf.cell? ⟨w.heap.size + 1, 3, none⟩ = some (.int .u8 (a.b.toNat : Int)) := t1.at_ rfl
  have a4 : wf.cell? ⟨w.heap.size + 1, 4, none⟩ = some (.slice a.ka a.keep.length a.kc) := t1.at_ rfl
  have WC := write_at y a.n (List.replicate t a.b) t (some ⟨gf, 0, none⟩) t wf base h1 g1.rv (by simp) (by omega) (by omega)
  go_wp2_with fail
  refine WC.mono ?_
  clear WC
  rintro e w2 ⟨rfl, nx⟩
  have l1x := lf
  obtain ⟨y2, h2, s2, d2, r2, k2, f2, nw2, lt2⟩ := play_next hfl hX r1 nx l1x
  have x2 : Blk w2 w.heap.size 51 #[.int .i64 (y.size : Int), .slice AL L.length kL, .slice AW W.length kW, .bool ov] := (k2.block _ x1.lt (fun hf => by have := hfl _ hf; omega)).trans x1
  have t2 : Blk w2 (w.heap.size + 1) 31 #[.int .i64 a.kind, .int .i64 a.n, .int .i64 a.torn, .int .u8 (a.b.toNat : Int), .slice a.ka a.keep.length a.kc] := (k2.block _ t1.lt (fun hf => by have := hfl _ hf; omega)).trans t1
  have z2 : Blk w2 (w.heap.size + 1 + 1) 51 #[.int .i64 0, .slice none 0 0, .slice none 0 0, .bool false] := (k2.block _ z1.lt (fun hf => by have := hfl _ hf; omega)).trans z1
  have b2 : Kept y.foot w w2 := (Kept.of_below b1 _).trans k2
  have hK2 : RV w2 a.ka (cL a.keep) := (hK1.kept k2).rv
  have q0 : w2.cell? ⟨w.heap.size, 0, none⟩ = some (.int .i64 (y.size : Int)) := x2.at_ rfl
  have q1 : w2.cell? ⟨w.heap.size, 1, none⟩ = some (.slice AL L.length kL) := x2.at_ rfl
  have q2 : w2.cell? ⟨w.heap.size, 2, none⟩ = some (.slice AW W.length kW) := x2.at_ rfl
  have q3 : w2.cell? ⟨w.heap.size, 3, none⟩ = some (.bool ov) := x2.at_ rfl
  have c1 : w2.cell? ⟨w.heap.size + 1, 1, none⟩ = some (.int .i64 a.n) := t2.at_ rfl
  have c2 : w2.cell? ⟨w.heap.size + 1, 2, none⟩ = some (.int .i64 a.torn) := t2.at_ rfl
  have c3 : w2.cell? ⟨w.heap.size + 1, 3, none⟩ = some (.int .u8 (a.b.toNat : Int)) := t2.at_ rfl
  have c4 : w2.cell? ⟨w.heap.size + 1, 4, none⟩ = some (.slice a.ka a.keep.length a.kc) := t2.at_ rfl
  have l2 := z2.lt
  have g2 := g1.kept k2
  clear k2 x1 t1 z1 h1 r1 nx hK1 a0 a1 a2 a3 a4
  have PC := put_calls ⟨AL, kL, L, AW, kW, W⟩ y.abs _ a.n (List.replicate t a.b) (some ⟨gf, 0, none⟩) t w2 r2 lt2 g2.rv (by simp; omega) (by omega)
  rw [List.length_replicate] at PC
  have RF := HRC.out (xs := [.int .i64 a.n, .slice (some ⟨gf, 0, none⟩) t t]) PC
  clear PC
  have HS : Hid ((y.abs.writeS a.n (List.replicate t a.b)).wait.length ≤ y.wp.length + 1) := by
    show _ ≤ _
    have := HWE.out
    unfold DiskP.Dsk.writeS Dsk.write
    split
    · simp; omega
    · omega
  generalize hE : y.abs.writeE a.n (List.replicate t a.b) = ke at RF ⊢
  clear hE
  go_wp2_with fail
  refine RF.mono ?_
  clear RF
  rintro e w3 ⟨m3, rfl, r3, b3⟩
  have x3 := x2.below b3 x2.lt
  have z3 := z2.below b3 z2.lt
  have BO : Both X w base y (y.abs.writeS a.n (List.replicate t a.b)) w.heap.size y2 m3 w3 := ⟨h2.below b3, s2, d2, r3, f2, b2.trans (Kept.of_below b3 _), nw2, by exact HS.out⟩
  have HEND := Lib.hid (fun w4 (hk : Kept (fun k => w.heap.size ≤ k ∧ k < w.heap.size + 3) w3 w4) => BO.end_ hk (Nat.le_refl _))
  obtain ⟨AL3, kL3, L3, AW3, kW3, W3⟩ := m3
  unfold Ref.val at HEND ⊢
  simp only at HEND ⊢
  generalize (y.abs.writeS a.n (List.replicate t a.b)).size = sz3 at HEND ⊢
  generalize (y.abs.writeS a.n (List.replicate t a.b)).off = of3 at HEND ⊢
  have q0 : w3.cell? ⟨w.heap.size, 0, none⟩ = some (.int .i64 (y.size : Int)) := x3.at_ rfl
  have q1 : w3.cell? ⟨w.heap.size, 1, none⟩ = some (.slice AL L.length kL) := x3.at_ rfl
  have q2 : w3.cell? ⟨w.heap.size, 2, none⟩ = some (.slice AW W.length kW) := x3.at_ rfl
  have q3 : w3.cell? ⟨w.heap.size, 3, none⟩ = some (.bool ov) := x3.at_ rfl
  have y0 := x3.frozen 0
  have y1 := x3.frozen 1
  have y2' := x3.frozen 2
  have y3 := x3.frozen 3
  have HX := Lib.hid x3
  have HZ := Lib.hid z3
  have l3 := z3.lt
  clear BO x2 z2 x3 z3 h2 s2 d2 r2 f2 nw2 lt2 r3 b3 b2 t2 c1 c2 c3 c4 HRC
  go_wp2_with ((with_reducible show wpList _ _ _ (⟨some 108, _, _, _, _, _⟩ :: _) _ _); refine wpList_abs (fun w4 => Blk w4 w.heap.size 51 #[.int .i64 (sz3 : Int), .slice AL3 L3.length kL3, .slice AW3 W3.length kW3, .bool of3] ∧ Blk w4 (w.heap.size + 1 + 1) 51 #[.int .i64 0, .slice none 0 0, .slice none 0 0, .bool false] ∧ Kept (fun k => w.heap.size ≤ k ∧ k < w.heap.size + 3) w3 w4) ?i1 ?_)
  case i1 => exact four_ok HX.out HZ.out _ rfl
  rintro w4 ⟨x4, z4, k4⟩
  have HK4 := Lib.hid k4
  have p0 : w4.cell? ⟨w.heap.size + 1 + 1, 0, none⟩ = some (.int .i64 0) := z4.at_ rfl
  have p1 : w4.cell? ⟨w.heap.size + 1 + 1, 1, none⟩ = some (.slice none 0 0) := z4.at_ rfl
  have p2 : w4.cell? ⟨w.heap.size + 1 + 1, 2, none⟩ = some (.slice none 0 0) := z4.at_ rfl
  have p3 : w4.cell? ⟨w.heap.size + 1 + 1, 3, none⟩ = some (.bool false) := z4.at_ rfl
  have t0 := z4.frozen 0
  have t1 := z4.frozen 1
  have t2 := z4.frozen 2
  have t3 := z4.frozen 3
  have s0 : w4.cell? ⟨w.heap.size, 0, none⟩ = some (.int .i64 (sz3 : Int)) := x4.at_ rfl
  have s1 : w4.cell? ⟨w.heap.size, 1, none⟩ = some (.slice AL3 L3.length kL3) := x4.at_ rfl
  have s2 : w4.cell? ⟨w.heap.size, 2, none⟩ = some (.slice AW3 W3.length kW3) := x4.at_ rfl
  have s3 : w4.cell? ⟨w.heap.size, 3, none⟩ = some (.bool of3) := x4.at_ rfl
  clear x4 z4 k4 HX HZ q0 q1 q2 q3 y0 y1 y2' y3
  go_wp2
  refine bodyPost_ret (v := .tuple #[.agg #[.int .i64 (sz3 : Int), .slice AL3 L3.length kL3, .slice AW3 W3.length kW3, .bool of3], .bool true]) (by simp [results, Try.results21, go_sem, p0, p1, p2, p3]) rfl (HEND.out _ (HK4.out.trans ?_))
  repeat (first | exact Kept.refl _ _ | refine Kept.setCell ?_ (.inl ⟨by show w.heap.size ≤ w.heap.size + 1 + 1; omega, by show w.heap.size + 1 + 1 < w.heap.size + 3; omega⟩) _)
set_option maxHeartbeats 3200000 in
set_option maxRecDepth 100000 in
theorem play_5b (a : ActR) (y : Lay) (m : Ref) (w : World) (base : Nat) (h : DiskOK w base y) (X : Nat → Prop) (hX : ∀ k, X k → k < w.heap.size) (hr : RefOK w (fun k => y.foot k ∨ X k) m y.abs) (hw : y.wp.length ≤ 1000) (hb : base ≤ w.heap.size) (ha : ActOK w a) (hK : RVF w y.foot a.ka (cL a.keep)) (hk0 : a.kind ≠ 0) (hk1 : a.kind ≠ 1) (hk2 : a.kind ≠ 2) (hk3 : a.kind ≠ 3) (hk4 : a.kind ≠ 4) (t : Nat) (ht : t ≤ 100) (htc : 0 ≤ a.torn) (htd : a.torn ≤ 100) (ht0 : a.torn = (t : Int)) :
    Calls Try.prog 21 #[.pointer (some ⟨y.D, 0, none⟩), m.val y.abs.size y.abs.off, .agg #[.int .i64 a.kind, .int .i64 a.n, .int .i64 a.torn, .int .u8 (a.b.toNat : Int), .slice a.ka a.keep.length a.kc]] w (RetPlay X w base y) := by
  have hfl : ∀ k, y.foot k → k < w.heap.size := fun k hk => (h.foot_lt hk).2
  have r0 : RefOK w (fun k => (y.foot k ∨ X k) ∨ w.heap.size ≤ k) m y.abs := hr.mono fun k hk hg => by rcases hg with hg | hg; exact hg; omega
  have hs1 := h.s1
  have hs2 := h.s2
  have hwl : y.abs.wait.length ≤ 1000 := by rw [← wlen]; exact hw
  have hwe : y.abs.wait.length = y.wp.length := (wlen y).symm
  have HWE := Lib.hid hwe
  clear hwe
  obtain ⟨AL, kL, L, AW, kW, W⟩ := m
  have hki1 := ha.k1
  have hki2 := ha.k2
  have hn1 := ha.n1
  have hn2 := ha.n2
  have ht1 := ha.t1
  have ht2 := ha.t2
  have hkl := ha.l2
  have hzz : y.abs.size = y.size := rfl
  unfold Ref.val
  simp only
  rw [hzz]
  have RC : ∀ {f : FuncId} {xs : List Value} {w2 : World} {Q : Ending → World → Prop}, Calls Try.prog f ((Ref.val ⟨AL, kL, L, AW, kW, W⟩ y.abs.size y.abs.off :: xs).toArray) w2 Q → Calls Try.prog f ((.agg #[.int .i64 (y.size : Int), .slice AL L.length kL, .slice AW W.length kW, .bool y.abs.off] :: xs).toArray) w2 Q := fun h => h
  generalize hov : y.abs.off = ov at RC ⊢
  have HOV := Lib.hid hov
  have HRC : Hid (∀ {f : FuncId} {xs : List Value} {w2 : World} {Q : Ending → World → Prop}, Calls Try.prog f ((Ref.val ⟨AL, kL, L, AW, kW, W⟩ y.abs.size y.abs.off :: xs).toArray) w2 Q → Calls Try.prog f ((.agg #[.int .i64 (y.size : Int), .slice AL L.length kL, .slice AW W.length kW, .bool ov] :: xs).toArray) w2 Q) := by
    show ∀ {f : FuncId} {xs : List Value} {w2 : World} {Q : Ending → World → Prop}, Calls Try.prog f ((Ref.val ⟨AL, kL, L, AW, kW, W⟩ y.abs.size y.abs.off :: xs).toArray) w2 Q → Calls Try.prog f ((.agg #[.int .i64 (y.size : Int), .slice AL L.length kL, .slice AW W.length kW, .bool ov] :: xs).toArray) w2 Q
    rw [← HOV.out]
    exact fun h => h
  clear hov hr ha RC hzz
  have e0 : (a.kind == 0) = false := by simpa using hk0
  have e1 : (a.kind == 1) = false := by simpa using hk1
  have e2 : (a.kind == 2) = false := by simpa using hk2
  have e3 : (a.kind == 3) = false := by simpa using hk3
  have e4 : (a.kind == 4) = false := by simpa using hk4
  clear hk0 hk1 hk2 hk3 hk4
  have HT0 := Lib.hid ht0
  clear ht0
  go_enter Try.func21, Try.ntmps21
  go_wp2_with fail
  have B1 : Below w.heap.size w (((w.alloc (.cells #[.int .i64 (y.size : Int), .slice AL L.length kL, .slice AW W.length kW, .bool ov] 51)).alloc (.cells #[.int .i64 a.kind, .int .i64 a.n, .int .i64 a.torn, .int .u8 (a.b.toNat : Int), .slice a.ka a.keep.length a.kc] 31)).alloc (.cells #[.int .i64 0, .slice none 0 0, .slice none 0 0, .bool false] 51)) := (((Below.refl _ _).alloc (Nat.le_refl _) _).alloc (by simp) _).alloc (by simp; omega) _
  refine (size_calls y _ base (h.below B1)).mono ?_
  rintro e w1 ⟨rfl, q1, rfl⟩
  have h1 : DiskOK ((((w.alloc (.cells #[.int .i64 (y.size : Int), .slice AL L.length kL, .slice AW W.length kW, .bool ov] 51)).alloc (.cells #[.int .i64 a.kind, .int .i64 a.n, .int .i64 a.torn, .int .u8 (a.b.toNat : Int), .slice a.ka a.keep.length a.kc] 31)).alloc (.cells #[.int .i64 0, .slice none 0 0, .slice none 0 0, .bool false] 51)).drewN q1) base y := (h.below B1).frame fun _ _ => rfl
  have x1 : Blk ((((w.alloc (.cells #[.int .i64 (y.size : Int), .slice AL L.length kL, .slice AW W.length kW, .bool ov] 51)).alloc (.cells #[.int .i64 a.kind, .int .i64 a.n, .int .i64 a.torn, .int .u8 (a.b.toNat : Int), .slice a.ka a.keep.length a.kc] 31)).alloc (.cells #[.int .i64 0, .slice none 0 0, .slice none 0 0, .bool false] 51)).drewN q1) w.heap.size 51 #[.int .i64 (y.size : Int), .slice AL L.length kL, .slice AW W.length kW, .bool ov] := ((Blk.new w _ _).alloc _).alloc _
  have t1 : Blk ((((w.alloc (.cells #[.int .i64 (y.size : Int), .slice AL L.length kL, .slice AW W.length kW, .bool ov] 51)).alloc (.cells #[.int .i64 a.kind, .int .i64 a.n, .int .i64 a.torn, .int .u8 (a.b.toNat : Int), .slice a.ka a.keep.length a.kc] 31)).alloc (.cells #[.int .i64 0, .slice none 0 0, .slice none 0 0, .bool false] 51)).drewN q1) (w.heap.size + 1) 31 #[.int .i64 a.kind, .int .i64 a.n, .int .i64 a.torn, .int .u8 (a.b.toNat : Int), .slice a.ka a.keep.length a.kc] := by
    have := (Blk.new (w.alloc (.cells #[.int .i64 (y.size : Int), .slice AL L.length kL, .slice AW W.length kW, .bool ov] 51)) 31 #[.int .i64 a.kind, .int .i64 a.n, .int .i64 a.torn, .int .u8 (a.b.toNat : Int), .slice a.ka a.keep.length a.kc]).alloc (.cells #[.int .i64 0, .slice none 0 0, .slice none 0 0, .bool false] 51)
    rw [World.size_alloc] at this
    exact this
  have z1 : Blk ((((w.alloc (.cells #[.int .i64 (y.size : Int), .slice AL L.length kL, .slice AW W.length kW, .bool ov] 51)).alloc (.cells #[.int .i64 a.kind, .int .i64 a.n, .int .i64 a.torn, .int .u8 (a.b.toNat : Int), .slice a.ka a.keep.length a.kc] 31)).alloc (.cells #[.int .i64 0, .slice none 0 0, .slice none 0 0, .bool false] 51)).drewN q1) (w.heap.size + 1 + 1) 51 #[.int .i64 0, .slice none 0 0, .slice none 0 0, .bool false] := by
    have := Blk.new ((w.alloc (.cells #[.int .i64 (y.size : Int), .slice AL L.length kL, .slice AW W.length kW, .bool ov] 51)).alloc (.cells #[.int .i64 a.kind, .int .i64 a.n, .int .i64 a.torn, .int .u8 (a.b.toNat : Int), .slice a.ka a.keep.length a.kc] 31)) 51 #[.int .i64 0, .slice none 0 0, .slice none 0 0, .bool false]
    rw [World.size_alloc, World.size_alloc] at this
    exact this
  have b1 : Below w.heap.size w ((((w.alloc (.cells #[.int .i64 (y.size : Int), .slice AL L.length kL, .slice AW W.length kW, .bool ov] 51)).alloc (.cells #[.int .i64 a.kind, .int .i64 a.n, .int .i64 a.torn, .int .u8 (a.b.toNat : Int), .slice a.ka a.keep.length a.kc] 31)).alloc (.cells #[.int .i64 0, .slice none 0 0, .slice none 0 0, .bool false] 51)).drewN q1) := ⟨B1.os, B1.tape, B1.output, B1.size, B1.block⟩
  generalize (((w.alloc (.cells #[.int .i64 (y.size : Int), .slice AL L.length kL, .slice AW W.length kW, .bool ov] 51)).alloc (.cells #[.int .i64 a.kind, .int .i64 a.n, .int .i64 a.torn, .int .u8 (a.b.toNat : Int), .slice a.ka a.keep.length a.kc] 31)).alloc (.cells #[.int .i64 0, .slice none 0 0, .slice none 0 0, .bool false] 51)).drewN q1 = w1 at h1 x1 t1 z1 b1 ⊢
  clear q1 B1
  have r1 := r0.below b1
  have hK1 := hK.below b1
  have l1 : w.heap.size + 3 ≤ w1.heap.size := z1.lt
  have a0 : w1.cell? ⟨w.heap.size + 1, 0, none⟩ = some (.int .i64 a.kind) := t1.at_ rfl
  have a1 : w1.cell? ⟨w.heap.size + 1, 1, none⟩ = some (.int .i64 a.n) := t1.at_ rfl
  have a2 : w1.cell? ⟨w.heap.size + 1, 2, none⟩ = some (.int .i64 a.torn) := t1.at_ rfl
  have a3 : w1.cell? ⟨w.heap.size + 1, 3, none⟩ = some (.int .u8 (a.b.toNat : Int)) := t1.at_ rfl
  have a4 : w1.cell? ⟨w.heap.size + 1, 4, none⟩ = some (.slice a.ka a.keep.length a.kc) := t1.at_ rfl
  clear r0
  have FC := filled_calls t a.b w1 (by omega)
  rw [← HT0.out] at FC
  go_wp2_with fail
  refine FC.mono ?_
  clear FC
  rintro e wf ⟨gf, rfl, of_, bf⟩
  rw [List.length_replicate] at of_
  rw [List.length_replicate]
  have g1 : RVF wf y.foot (some ⟨gf, 0, none⟩) (cB (List.replicate t a.b)) := RVF.of_own of_ (fun k hk => by have := hfl k hk; omega)
  have hf1 := h1.below bf
  have xf := x1.below bf x1.lt
  have tf := t1.below bf t1.lt
  have zf := z1.below bf z1.lt
  have bf' : Below w.heap.size w wf := b1.trans (bf.mono b1.size)
  have rf1 := r1.below bf
  have hKf := hK1.below bf
  have lf : w.heap.size + 3 ≤ wf.heap.size := zf.lt
  clear h1 x1 t1 z1 b1 r1 hK1 bf of_ a0 a1 a2 a3 a4
  have h1 := hf1
  have x1 := xf
  have t1 := tf
  have z1 := zf
  have b1 := bf'
  have r1 := rf1
  have hK1 := hKf
  clear hf1 xf tf zf bf' rf1 hKf
  have a0 : wf.cell? ⟨w.heap.size + 1, 0, none⟩ = some (.int .i64 a.kind) := t1.at_ rfl
  have a1 : wf.cell? ⟨w.heap.size + 1, 1, none⟩ = some (.int .i64 a.n) := t1.at_ rfl
  have a2 : wf.cell? ⟨w.heap.size + 1, 2, none⟩ = some (.int .i64 a.torn) := t1.at_ rfl
  have a3 : wf.cell? ⟨w.heap.size + 1, 3, none⟩ = some (.int .u8 (a.b.toNat : Int)) := t1.at_ rfl
  have a4 : wf.cell? ⟨w.heap.size + 1, 4, none⟩ = some (.slice a.ka a.keep.length a.kc) := t1.at_ rfl
  have WC := write_at y a.n (List.replicate t a.b) t (some ⟨gf, 0, none⟩) t wf base h1 g1.rv (by simp) (by omega) (by omega)
  go_wp2_with fail
  refine WC.mono ?_
  clear WC
  rintro e w2 ⟨rfl, nx⟩
  have l1x := lf
  obtain ⟨y2, h2, s2, d2, r2, k2, f2, nw2, lt2⟩ := play_next hfl hX r1 nx l1x
  have x2 : Blk w2 w.heap.size 51 #[.int .i64 (y.size : Int), .slice AL L.length kL, .slice AW W.length kW, .bool ov] := (k2.block _ x1.lt (fun hf => by have := hfl _ hf; omega)).trans x1
  have t2 : Blk w2 (w.heap.size + 1) 31 #[.int .i64 a.kind, .int .i64 a.n, .int .i64 a.torn, .int .u8 (a.b.toNat : Int), .slice a.ka a.keep.length a.kc] := (k2.block _ t1.lt (fun hf => by have := hfl _ hf; omega)).trans t1
  have z2 : Blk w2 (w.heap.size + 1 + 1) 51 #[.int .i64 0, .slice none 0 0, .slice none 0 0, .bool false] := (k2.block _ z1.lt (fun hf => by have := hfl _ hf; omega)).trans z1
  have b2 : Kept y.foot w w2 := (Kept.of_below b1 _).trans k2
  have hK2 : RV w2 a.ka (cL a.keep) := (hK1.kept k2).rv
  have q0 : w2.cell? ⟨w.heap.size, 0, none⟩ = some (.int .i64 (y.size : Int)) := x2.at_ rfl
  have q1 : w2.cell? ⟨w.heap.size, 1, none⟩ = some (.slice AL L.length kL) := x2.at_ rfl
  have q2 : w2.cell? ⟨w.heap.size, 2, none⟩ = some (.slice AW W.length kW) := x2.at_ rfl
  have q3 : w2.cell? ⟨w.heap.size, 3, none⟩ = some (.bool ov) := x2.at_ rfl
  have c1 : w2.cell? ⟨w.heap.size + 1, 1, none⟩ = some (.int .i64 a.n) := t2.at_ rfl
  have c2 : w2.cell? ⟨w.heap.size + 1, 2, none⟩ = some (.int .i64 a.torn) := t2.at_ rfl
  have c3 : w2.cell? ⟨w.heap.size + 1, 3, none⟩ = some (.int .u8 (a.b.toNat : Int)) := t2.at_ rfl
  have c4 : w2.cell? ⟨w.heap.size + 1, 4, none⟩ = some (.slice a.ka a.keep.length a.kc) := t2.at_ rfl
  have l2 := z2.lt
  have g2 := g1.kept k2
  clear k2 x1 t1 z1 h1 r1 nx hK1 a0 a1 a2 a3 a4
  have PC := put_calls ⟨AL, kL, L, AW, kW, W⟩ y.abs _ a.n (List.replicate t a.b) (some ⟨gf, 0, none⟩) t w2 r2 lt2 g2.rv (by simp; omega) (by omega)
  rw [List.length_replicate] at PC
  have RF := HRC.out (xs := [.int .i64 a.n, .slice (some ⟨gf, 0, none⟩) t t]) PC
  clear PC
  have HS : Hid ((y.abs.writeS a.n (List.replicate t a.b)).wait.length ≤ y.wp.length + 1) := by
    show _ ≤ _
    have := HWE.out
    unfold DiskP.Dsk.writeS Dsk.write
    split
    · simp; omega
    · omega
  generalize hE : y.abs.writeE a.n (List.replicate t a.b) = ke at RF ⊢
  clear hE
  go_wp2_with fail
  refine RF.mono ?_
  clear RF
  rintro e w3 ⟨m3, rfl, r3, b3⟩
  have x3 := x2.below b3 x2.lt
  have z3 := z2.below b3 z2.lt
  have BO : Both X w base y (y.abs.writeS a.n (List.replicate t a.b)) w.heap.size y2 m3 w3 := ⟨h2.below b3, s2, d2, r3, f2, b2.trans (Kept.of_below b3 _), nw2, by exact HS.out⟩
  have HEND := Lib.hid (fun w4 (hk : Kept (fun k => w.heap.size ≤ k ∧ k < w.heap.size + 3) w3 w4) => BO.end_ hk (Nat.le_refl _))
  obtain ⟨AL3, kL3, L3, AW3, kW3, W3⟩ := m3
  unfold Ref.val at HEND ⊢
  simp only at HEND ⊢
  generalize (y.abs.writeS a.n (List.replicate t a.b)).size = sz3 at HEND ⊢
  generalize (y.abs.writeS a.n (List.replicate t a.b)).off = of3 at HEND ⊢
  have q0 : w3.cell? ⟨w.heap.size, 0, none⟩ = some (.int .i64 (y.size : Int)) := x3.at_ rfl
  have q1 : w3.cell? ⟨w.heap.size, 1, none⟩ = some (.slice AL L.length kL) := x3.at_ rfl
  have q2 : w3.cell? ⟨w.heap.size, 2, none⟩ = some (.slice AW W.length kW) := x3.at_ rfl
  have q3 : w3.cell? ⟨w.heap.size, 3, none⟩ = some (.bool ov) := x3.at_ rfl
  have y0 := x3.frozen 0
  have y1 := x3.frozen 1
  have y2' := x3.frozen 2
  have y3 := x3.frozen 3
  have HX := Lib.hid x3
  have HZ := Lib.hid z3
  have l3 := z3.lt
  clear BO x2 z2 x3 z3 h2 s2 d2 r2 f2 nw2 lt2 r3 b3 b2 t2 c1 c2 c3 c4 HRC
  go_wp2_with ((with_reducible show wpList _ _ _ (⟨some 108, _, _, _, _, _⟩ :: _) _ _); refine wpList_abs (fun w4 => Blk w4 w.heap.size 51 #[.int .i64 (sz3 : Int), .slice AL3 L3.length kL3, .slice AW3 W3.length kW3, .bool of3] ∧ Blk w4 (w.heap.size + 1 + 1) 51 #[.int .i64 0, .slice none 0 0, .slice none 0 0, .bool false] ∧ Kept (fun k => w.heap.size ≤ k ∧ k < w.heap.size + 3) w3 w4) ?i1 ?_)
  case i1 => exact four_ok HX.out HZ.out _ rfl
  rintro w4 ⟨x4, z4, k4⟩
  have HK4 := Lib.hid k4
  have p0 : w4.cell? ⟨w.heap.size + 1 + 1, 0, none⟩ = some (.int .i64 0) := z4.at_ rfl
  have p1 : w4.cell? ⟨w.heap.size + 1 + 1, 1, none⟩ = some (.slice none 0 0) := z4.at_ rfl
  have p2 : w4.cell? ⟨w.heap.size + 1 + 1, 2, none⟩ = some (.slice none 0 0) := z4.at_ rfl
  have p3 : w4.cell? ⟨w.heap.size + 1 + 1, 3, none⟩ = some (.bool false) := z4.at_ rfl
  have t0 := z4.frozen 0
  have t1 := z4.frozen 1
  have t2 := z4.frozen 2
  have t3 := z4.frozen 3
  have s0 : w4.cell? ⟨w.heap.size, 0, none⟩ = some (.int .i64 (sz3 : Int)) := x4.at_ rfl
  have s1 : w4.cell? ⟨w.heap.size, 1, none⟩ = some (.slice AL3 L3.length kL3) := x4.at_ rfl
  have s2 : w4.cell? ⟨w.heap.size, 2, none⟩ = some (.slice AW3 W3.length kW3) := x4.at_ rfl
  have s3 : w4.cell? ⟨w.heap.size, 3, none⟩ = some (.bool of3) := x4.at_ rfl
  clear x4 z4 k4 HX HZ q0 q1 q2 q3 y0 y1 y2' y3
  go_wp2
  refine bodyPost_ret (v := .tuple #[.agg #[.int .i64 (sz3 : Int), .slice AL3 L3.length kL3, .slice AW3 W3.length kW3, .bool of3], .bool true]) (by simp [results, Try.results21, go_sem, p0, p1, p2, p3]) rfl (HEND.out _ (HK4.out.trans ?_))
  repeat (first | exact Kept.refl _ _ | refine Kept.setCell ?_ (.inl ⟨by show w.heap.size ≤ w.heap.size + 1 + 1; omega, by show w.heap.size + 1 + 1 < w.heap.size + 3; omega⟩) _)
set_option maxHeartbeats 3200000 in
set_option maxRecDepth 100000 in
theorem play_5c (a : ActR) (y : Lay) (m : Ref) (w : World) (base : Nat) (h : DiskOK w base y) (X : Nat → Prop) (hX : ∀ k, X k → k < w.heap.size) (hr : RefOK w (fun k => y.foot k ∨ X k) m y.abs) (hw : y.wp.length ≤ 1000) (hb : base ≤ w.heap.size) (ha : ActOK w a) (hK : RVF w y.foot a.ka (cL a.keep)) (hk0 : a.kind ≠ 0) (hk1 : a.kind ≠ 1) (hk2 : a.kind ≠ 2) (hk3 : a.kind ≠ 3) (hk4 : a.kind ≠ 4) (t : Nat) (ht : t ≤ 100) (htc : 100 < a.torn) (ht0 : t = 100) :
    Calls Try.prog 21 #[.pointer (some ⟨y.D, 0, none⟩), m.val y.abs.size y.abs.off, .agg #[.int .i64 a.kind, .int .i64 a.n, .int .i64 a.torn, .int .u8 (a.b.toNat : Int), .slice a.ka a.keep.length a.kc]] w (RetPlay X w base y) := by
  have hfl : ∀ k, y.foot k → k < w.heap.size := fun k hk => (h.foot_lt hk).2
  have r0 : RefOK w (fun k => (y.foot k ∨ X k) ∨ w.heap.size ≤ k) m y.abs := hr.mono fun k hk hg => by rcases hg with hg | hg; exact hg; omega
  have hs1 := h.s1
  have hs2 := h.s2
  have hwl : y.abs.wait.length ≤ 1000 := by rw [← wlen]; exact hw
  have hwe : y.abs.wait.length = y.wp.length := (wlen y).symm
  have HWE := Lib.hid hwe
  clear hwe
  obtain ⟨AL, kL, L, AW, kW, W⟩ := m
  have hki1 := ha.k1
  have hki2 := ha.k2
  have hn1 := ha.n1
  have hn2 := ha.n2
  have ht1 := ha.t1
  have ht2 := ha.t2
  have hkl := ha.l2
  have hzz : y.abs.size = y.size := rfl
  unfold Ref.val
  simp only
  rw [hzz]
  have RC : ∀ {f : FuncId} {xs : List Value} {w2 : World} {Q : Ending → World → Prop}, Calls Try.prog f ((Ref.val ⟨AL, kL, L, AW, kW, W⟩ y.abs.size y.abs.off :: xs).toArray) w2 Q → Calls Try.prog f ((.agg #[.int .i64 (y.size : Int), .slice AL L.length kL, .slice AW W.length kW, .bool y.abs.off] :: xs).toArray) w2 Q := fun h => h
  generalize hov : y.abs.off = ov at RC ⊢
  have HOV := Lib.hid hov
  have HRC : Hid (∀ {f : FuncId} {xs : List Value} {w2 : World} {Q : Ending → World → Prop}, Calls Try.prog f ((Ref.val ⟨AL, kL, L, AW, kW, W⟩ y.abs.size y.abs.off :: xs).toArray) w2 Q → Calls Try.prog f ((.agg #[.int .i64 (y.size : Int), .slice AL L.length kL, .slice AW W.length kW, .bool ov] :: xs).toArray) w2 Q) := by
    show ∀ {f : FuncId} {xs : List Value} {w2 : World} {Q : Ending → World → Prop}, Calls Try.prog f ((Ref.val ⟨AL, kL, L, AW, kW, W⟩ y.abs.size y.abs.off :: xs).toArray) w2 Q → Calls Try.prog f ((.agg #[.int .i64 (y.size : Int), .slice AL L.length kL, .slice AW W.length kW, .bool ov] :: xs).toArray) w2 Q
    rw [← HOV.out]
    exact fun h => h
  clear hov hr ha RC hzz
  have e0 : (a.kind == 0) = false := by simpa using hk0
  have e1 : (a.kind == 1) = false := by simpa using hk1
  have e2 : (a.kind == 2) = false := by simpa using hk2
  have e3 : (a.kind == 3) = false := by simpa using hk3
  have e4 : (a.kind == 4) = false := by simpa using hk4
  clear hk0 hk1 hk2 hk3 hk4
  have HT0 := Lib.hid ht0
  clear ht0
  go_enter Try.func21, Try.ntmps21
  go_wp2_with fail
  have B1 : Below w.heap.size w (((w.alloc (.cells #[.int .i64 (y.size : Int), .slice AL L.length kL, .slice AW W.length kW, .bool ov] 51)).alloc (.cells #[.int .i64 a.kind, .int .i64 a.n, .int .i64 a.torn, .int .u8 (a.b.toNat : Int), .slice a.ka a.keep.length a.kc] 31)).alloc (.cells #[.int .i64 0, .slice none 0 0, .slice none 0 0, .bool false] 51)) := (((Below.refl _ _).alloc (Nat.le_refl _) _).alloc (by simp) _).alloc (by simp; omega) _
  refine (size_calls y _ base (h.below B1)).mono ?_
  rintro e w1 ⟨rfl, q1, rfl⟩
  have h1 : DiskOK ((((w.alloc (.cells #[.int .i64 (y.size : Int), .slice AL L.length kL, .slice AW W.length kW, .bool ov] 51)).alloc (.cells #[.int .i64 a.kind, .int .i64 a.n, .int .i64 a.torn, .int .u8 (a.b.toNat : Int), .slice a.ka a.keep.length a.kc] 31)).alloc (.cells #[.int .i64 0, .slice none 0 0, .slice none 0 0, .bool false] 51)).drewN q1) base y := (h.below B1).frame fun _ _ => rfl
  have x1 : Blk ((((w.alloc (.cells #[.int .i64 (y.size : Int), .slice AL L.length kL, .slice AW W.length kW, .bool ov] 51)).alloc (.cells #[.int .i64 a.kind, .int .i64 a.n, .int .i64 a.torn, .int .u8 (a.b.toNat : Int), .slice a.ka a.keep.length a.kc] 31)).alloc (.cells #[.int .i64 0, .slice none 0 0, .slice none 0 0, .bool false] 51)).drewN q1) w.heap.size 51 #[.int .i64 (y.size : Int), .slice AL L.length kL, .slice AW W.length kW, .bool ov] := ((Blk.new w _ _).alloc _).alloc _
  have t1 : Blk ((((w.alloc (.cells #[.int .i64 (y.size : Int), .slice AL L.length kL, .slice AW W.length kW, .bool ov] 51)).alloc (.cells #[.int .i64 a.kind, .int .i64 a.n, .int .i64 a.torn, .int .u8 (a.b.toNat : Int), .slice a.ka a.keep.length a.kc] 31)).alloc (.cells #[.int .i64 0, .slice none 0 0, .slice none 0 0, .bool false] 51)).drewN q1) (w.heap.size + 1) 31 #[.int .i64 a.kind, .int .i64 a.n, .int .i64 a.torn, .int .u8 (a.b.toNat : Int), .slice a.ka a.keep.length a.kc] := by
    have := (Blk.new (w.alloc (.cells #[.int .i64 (y.size : Int), .slice AL L.length kL, .slice AW W.length kW, .bool ov] 51)) 31 #[.int .i64 a.kind, .int .i64 a.n, .int .i64 a.torn, .int .u8 (a.b.toNat : Int), .slice a.ka a.keep.length a.kc]).alloc (.cells #[.int .i64 0, .slice none 0 0, .slice none 0 0, .bool false] 51)
    rw [World.size_alloc] at this
    exact this
  have z1 : Blk ((((w.alloc (.cells #[.int .i64 (y.size : Int), .slice AL L.length kL, .slice AW W.length kW, .bool ov] 51)).alloc (.cells #[.int .i64 a.kind, .int .i64 a.n, .int .i64 a.torn, .int .u8 (a.b.toNat : Int), .slice a.ka a.keep.length a.kc] 31)).alloc (.cells #[.int .i64 0, .slice none 0 0, .slice none 0 0, .bool false] 51)).drewN q1) (w.heap.size + 1 + 1) 51 #[.int .i64 0, .slice none 0 0, .slice none 0 0, .bool false] := by
    have := Blk.new ((w.alloc (.cells #[.int .i64 (y.size : Int), .slice AL L.length kL, .slice AW W.length kW, .bool ov] 51)).alloc (.cells #[.int .i64 a.kind, .int .i64 a.n, .int .i64 a.torn, .int .u8 (a.b.toNat : Int), .slice a.ka a.keep.length a.kc] 31)) 51 #[.int .i64 0, .slice none 0 0, .slice none 0 0, .bool false]
    rw [World.size_alloc, World.size_alloc] at this
    exact this
  have b1 : Below w.heap.size w ((((w.alloc (.cells #[.int .i64 (y.size : Int), .slice AL L.length kL, .slice AW W.length kW, .bool ov] 51)).alloc (.cells #[.int .i64 a.kind, .int .i64 a.n, .int .i64 a.torn, .int .u8 (a.b.toNat : Int), .slice a.ka a.keep.length a.kc] 31)).alloc (.cells #[.int .i64 0, .slice none 0 0, .slice none 0 0, .bool false] 51)).drewN q1) := ⟨B1.os, B1.tape, B1.output, B1.size, B1.block⟩
  generalize (((w.alloc (.cells #[.int .i64 (y.size : Int), .slice AL L.length kL, .slice AW W.length kW, .bool ov] 51)).alloc (.cells #[.int .i64 a.kind, .int .i64 a.n, .int .i64 a.torn, .int .u8 (a.b.toNat : Int), .slice a.ka a.keep.length a.kc] 31)).alloc (.cells #[.int .i64 0, .slice none 0 0, .slice none 0 0, .bool false] 51)).drewN q1 = w1 at h1 x1 t1 z1 b1 ⊢
  clear q1 B1
  have r1 := r0.below b1
  have hK1 := hK.below b1
  have l1 : w.heap.size + 3 ≤ w1.heap.size := z1.lt
  have a0 : w1.cell? ⟨w.heap.size + 1, 0, none⟩ = some (.int .i64 a.kind) := t1.at_ rfl
  have a1 : w1.cell? ⟨w.heap.size + 1, 1, none⟩ = some (.int .i64 a.n) := t1.at_ rfl
  have a2 : w1.cell? ⟨w.heap.size + 1, 2, none⟩ = some (.int .i64 a.torn) := t1.at_ rfl
  have a3 : w1.cell? ⟨w.heap.size + 1, 3, none⟩ = some (.int .u8 (a.b.toNat : Int)) := t1.at_ rfl
  have a4 : w1.cell? ⟨w.heap.size + 1, 4, none⟩ = some (.slice a.ka a.keep.length a.kc) := t1.at_ rfl
  clear r0
  have FC := filled_calls t a.b w1 (by omega)
  rw [show ((t : Nat) : Int) = 100 by rw [HT0.out]; rfl] at FC
  go_wp2_with fail
  refine FC.mono ?_
  clear FC
  rintro e wf ⟨gf, rfl, of_, bf⟩
  rw [List.length_replicate] at of_
  rw [List.length_replicate]
  have g1 : RVF wf y.foot (some ⟨gf, 0, none⟩) (cB (List.replicate t a.b)) := RVF.of_own of_ (fun k hk => by have := hfl k hk; omega)
  have hf1 := h1.below bf
  have xf := x1.below bf x1.lt
  have tf := t1.below bf t1.lt
  have zf := z1.below bf z1.lt
  have bf' : Below w.heap.size w wf := b1.trans (bf.mono b1.size)
  have rf1 := r1.below bf
  have hKf := hK1.below bf
  have lf : w.heap.size + 3 ≤ wf.heap.size := zf.lt
  clear h1 x1 t1 z1 b1 r1 hK1 bf of_ a0 a1 a2 a3 a4
  have h1 := hf1
  have x1 := xf
  have t1 := tf
  have z1 := zf
  have b1 := bf'
  have r1 := rf1
  have hK1 := hKf
  clear hf1 xf tf zf bf' rf1 hKf
  have a0 : wf.cell? ⟨w.heap.size + 1, 0, none⟩ = some (.int .i64 a.kind) := t1.at_ rfl
  have a1 : wf.cell? ⟨w.heap.size + 1, 1, none⟩ = some (.int .i64 a.n) := t1.at_ rfl
  have a2 : wf.cell? ⟨w.heap.size + 1, 2, none⟩ = some (.int .i64 a.torn) := t1.at_ rfl
  have a3 : wf.cell? ⟨w.heap.size + 1, 3, none⟩ = some (.int .u8 (a.b.toNat : Int)) := t1.at_ rfl
  have a4 : wf.cell? ⟨w.heap.size + 1, 4, none⟩ = some (.slice a.ka a.keep.length a.kc) := t1.at_ rfl
  have WC := write_at y a.n (List.replicate t a.b) t (some ⟨gf, 0, none⟩) t wf base h1 g1.rv (by simp) (by omega) (by omega)
  go_wp2_with fail
  refine WC.mono ?_
  clear WC
  rintro e w2 ⟨rfl, nx⟩
  have l1x := lf
  obtain ⟨y2, h2, s2, d2, r2, k2, f2, nw2, lt2⟩ := play_next hfl hX r1 nx l1x
  have x2 : Blk w2 w.heap.size 51 #[.int .i64 (y.size : Int), .slice AL L.length kL, .slice AW W.length kW, .bool ov] := (k2.block _ x1.lt (fun hf => by have := hfl _ hf; omega)).trans x1
  have t2 : Blk w2 (w.heap.size + 1) 31 #[.int .i64 a.kind, .int .i64 a.n, .int .i64 a.torn, .int .u8 (a.b.toNat : Int), .slice a.ka a.keep.length a.kc] := (k2.block _ t1.lt (fun hf => by have := hfl _ hf; omega)).trans t1
  have z2 : Blk w2 (w.heap.size + 1 + 1) 51 #[.int .i64 0, .slice none 0 0, .slice none 0 0, .bool false] := (k2.block _ z1.lt (fun hf => by have := hfl _ hf; omega)).trans z1
  have b2 : Kept y.foot w w2 := (Kept.of_below b1 _).trans k2
  have hK2 : RV w2 a.ka (cL a.keep) := (hK1.kept k2).rv
  have q0 : w2.cell? ⟨w.heap.size, 0, none⟩ = some (.int .i64 (y.size : Int)) := x2.at_ rfl
  have q1 : w2.cell? ⟨w.heap.size, 1, none⟩ = some (.slice AL L.length kL) := x2.at_ rfl
  have q2 : w2.cell? ⟨w.heap.size, 2, none⟩ = some (.slice AW W.length kW) := x2.at_ rfl
  have q3 : w2.cell? ⟨w.heap.size, 3, none⟩ = some (.bool ov) := x2.at_ rfl
  have c1 : w2.cell? ⟨w.heap.size + 1, 1, none⟩ = some (.int .i64 a.n) := t2.at_ rfl
  have c2 : w2.cell? ⟨w.heap.size + 1, 2, none⟩ = some (.int .i64 a.torn) := t2.at_ rfl
  have c3 : w2.cell? ⟨w.heap.size + 1, 3, none⟩ = some (.int .u8 (a.b.toNat : Int)) := t2.at_ rfl
  have c4 : w2.cell? ⟨w.heap.size + 1, 4, none⟩ = some (.slice a.ka a.keep.length a.kc) := t2.at_ rfl
  have l2 := z2.lt
  have g2 := g1.kept k2
  clear k2 x1 t1 z1 h1 r1 nx hK1 a0 a1 a2 a3 a4
  have PC := put_calls ⟨AL, kL, L, AW, kW, W⟩ y.abs _ a.n (List.replicate t a.b) (some ⟨gf, 0, none⟩) t w2 r2 lt2 g2.rv (by simp; omega) (by omega)
  rw [List.length_replicate] at PC
  have RF := HRC.out (xs := [.int .i64 a.n, .slice (some ⟨gf, 0, none⟩) t t]) PC
  clear PC
  have HS : Hid ((y.abs.writeS a.n (List.replicate t a.b)).wait.length ≤ y.wp.length + 1) := by
    show _ ≤ _
    have := HWE.out
    unfold DiskP.Dsk.writeS Dsk.write
    split
    · simp; omega
    · omega
  generalize hE : y.abs.writeE a.n (List.replicate t a.b) = ke at RF ⊢
  clear hE
  go_wp2_with fail
  refine RF.mono ?_
  clear RF
  rintro e w3 ⟨m3, rfl, r3, b3⟩
  have x3 := x2.below b3 x2.lt
  have z3 := z2.below b3 z2.lt
  have BO : Both X w base y (y.abs.writeS a.n (List.replicate t a.b)) w.heap.size y2 m3 w3 := ⟨h2.below b3, s2, d2, r3, f2, b2.trans (Kept.of_below b3 _), nw2, by exact HS.out⟩
  have HEND := Lib.hid (fun w4 (hk : Kept (fun k => w.heap.size ≤ k ∧ k < w.heap.size + 3) w3 w4) => BO.end_ hk (Nat.le_refl _))
  obtain ⟨AL3, kL3, L3, AW3, kW3, W3⟩ := m3
  unfold Ref.val at HEND ⊢
  simp only at HEND ⊢
  generalize (y.abs.writeS a.n (List.replicate t a.b)).size = sz3 at HEND ⊢
  generalize (y.abs.writeS a.n (List.replicate t a.b)).off = of3 at HEND ⊢
  have q0 : w3.cell? ⟨w.heap.size, 0, none⟩ = some (.int .i64 (y.size : Int)) := x3.at_ rfl
  have q1 : w3.cell? ⟨w.heap.size, 1, none⟩ = some (.slice AL L.length kL) := x3.at_ rfl
  have q2 : w3.cell? ⟨w.heap.size, 2, none⟩ = some (.slice AW W.length kW) := x3.at_ rfl
  have q3 : w3.cell? ⟨w.heap.size, 3, none⟩ = some (.bool ov) := x3.at_ rfl
  have y0 := x3.frozen 0
  have y1 := x3.frozen 1
  have y2' := x3.frozen 2
  have y3 := x3.frozen 3
  have HX := Lib.hid x3
  have HZ := Lib.hid z3
  have l3 := z3.lt
  clear BO x2 z2 x3 z3 h2 s2 d2 r2 f2 nw2 lt2 r3 b3 b2 t2 c1 c2 c3 c4 HRC
  go_wp2_with ((with_reducible show wpList _ _ _ (⟨some 108, _, _, _, _, _⟩ :: _) _ _); refine wpList_abs (fun w4 => Blk w4 w.heap.size 51 #[.int .i64 (sz3 : Int), .slice AL3 L3.length kL3, .slice AW3 W3.length kW3, .bool of3] ∧ Blk w4 (w.heap.size + 1 + 1) 51 #[.int .i64 0, .slice none 0 0, .slice none 0 0, .bool false] ∧ Kept (fun k => w.heap.size ≤ k ∧ k < w.heap.size + 3) w3 w4) ?i1 ?_)
  case i1 => exact four_ok HX.out HZ.out _ rfl
  rintro w4 ⟨x4, z4, k4⟩
  have HK4 := Lib.hid k4
  have p0 : w4.cell? ⟨w.heap.size + 1 + 1, 0, none⟩ = some (.int .i64 0) := z4.at_ rfl
  have p1 : w4.cell? ⟨w.heap.size + 1 + 1, 1, none⟩ = some (.slice none 0 0) := z4.at_ rfl
  have p2 : w4.cell? ⟨w.heap.size + 1 + 1, 2, none⟩ = some (.slice none 0 0) := z4.at_ rfl
  have p3 : w4.cell? ⟨w.heap.size + 1 + 1, 3, none⟩ = some (.bool false) := z4.at_ rfl
  have t0 := z4.frozen 0
  have t1 := z4.frozen 1
  have t2 := z4.frozen 2
  have t3 := z4.frozen 3
  have s0 : w4.cell? ⟨w.heap.size, 0, none⟩ = some (.int .i64 (sz3 : Int)) := x4.at_ rfl
  have s1 : w4.cell? ⟨w.heap.size, 1, none⟩ = some (.slice AL3 L3.length kL3) := x4.at_ rfl
  have s2 : w4.cell? ⟨w.heap.size, 2, none⟩ = some (.slice AW3 W3.length kW3) := x4.at_ rfl
  have s3 : w4.cell? ⟨w.heap.size, 3, none⟩ = some (.bool of3) := x4.at_ rfl
  clear x4 z4 k4 HX HZ q0 q1 q2 q3 y0 y1 y2' y3
  go_wp2
  refine bodyPost_ret (v := .tuple #[.agg #[.int .i64 (sz3 : Int), .slice AL3 L3.length kL3, .slice AW3 W3.length kW3, .bool of3], .bool true]) (by simp [results, Try.results21, go_sem, p0, p1, p2, p3]) rfl (HEND.out _ (HK4.out.trans ?_))
  repeat (first | exact Kept.refl _ _ | refine Kept.setCell ?_ (.inl ⟨by show w.heap.size ≤ w.heap.size + 1 + 1; omega, by show w.heap.size + 1 + 1 < w.heap.size + 3; omega⟩) _)
end Go.Proofs.Ytmemkoiooanhkaa
