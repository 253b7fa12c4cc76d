/-
  The walk of play: an act on both disks (Flush, Cut).
-/
import Derived.Test.YtmemkoiooanhkaaRefSame
import Derived.Test.YtmemkoiooanhkaaDiskActs
import Derived.Test.YtmemkoiooanhkaaTill
import Derived.Deep.RegionHeld
namespace Go.Proofs.Ytmemkoiooanhkaa
open Go.RowKit DiskP

/-- Both disks go on, and tell the same. -/
def RetPlay (X : Nat → Prop) (w : World) (base : Nat) (y : Lay) (e : Ending) (w' : World) : Prop :=
  ∃ y' m', e = .returned (.tuple #[Ref.val m' y'.abs.size y'.abs.off, .bool true]) ∧ DiskOK w' base y' ∧ y'.D = y.D ∧ RefOK w' (fun k => y'.foot k ∨ X k) m' y'.abs ∧ y'.wp.length ≤ y.wp.length + 1 ∧ Kept y.foot w w' ∧ ∀ k, y'.foot k → y.foot k ∨ w.heap.size ≤ k
structure Both (X : Nat → Prop) (w : World) (base : Nat) (y : Lay) (S : Dsk) (a : Nat) (y1 : Lay) (m1 : Ref) (w2 : World) : Prop where
  ok : DiskOK w2 base y1
  abs : y1.abs = S
  D : y1.D = y.D
  ref : RefOK w2 (fun k => (y1.foot k ∨ X k) ∨ (a ≤ k ∧ k < a + 3)) m1 S
  far : ∀ k, y1.foot k → k < a ∨ a + 3 ≤ k
  bel : Kept y.foot w w2
  new : ∀ k, y1.foot k → y.foot k ∨ w.heap.size ≤ k
  wl : S.wait.length ≤ y.wp.length + 1
theorem Both.end_ {X : Nat → Prop} {w w2 w3 : World} {base : Nat} {y y1 : Lay} {S : Dsk} {a : Nat} {m1 : Ref} (h : Both X w base y S a y1 m1 w2) (hk : Kept (fun k => a ≤ k ∧ k < a + 3) w2 w3) (ha : w.heap.size ≤ a) :
    RetPlay X w base y (.returned (.tuple #[m1.val S.size S.off, .bool true])) w3 := by
  have h1 := h.ok.kept hk (fun k hf hg => by rcases h.far k hf with h | h <;> omega)
  refine ⟨y1, m1, by rw [h.abs], h1, h.D, ?_, by rw [wlen, h.abs]; exact h.wl, ⟨hk.os.trans h.bel.os, hk.tape.trans h.bel.tape, hk.output.trans h.bel.output, Nat.le_trans h.bel.size hk.size, fun k h1 h2 => (hk.block k (Nat.lt_of_lt_of_le h1 h.bel.size) (fun hg => by omega)).trans (h.bel.block k h1 h2)⟩, h.new⟩
  rw [h.abs]
  exact (h.ref.kept (hk.mono fun k _ hg => .inr hg)).mono fun k _ hf => .inl hf
theorem play_next {X : Nat → Prop} {w1 w2 : World} {base a : Nat} {y : Lay} {S d : Dsk} {m : Ref} (hfl : ∀ k, y.foot k → k < a) (hX : ∀ k, X k → k < a) (r1 : RefOK w1 (fun k => (y.foot k ∨ X k) ∨ a ≤ k) m d) (n : Next w1 base y S w2) (hs : a + 3 ≤ w1.heap.size) :
    ∃ y2, DiskOK w2 base y2 ∧ y2.abs = S ∧ y2.D = y.D ∧ RefOK w2 (fun k => (y2.foot k ∨ X k) ∨ (a ≤ k ∧ k < a + 3)) m d ∧ Kept y.foot w1 w2 ∧ (∀ k, y2.foot k → k < a ∨ a + 3 ≤ k) ∧ (∀ k, y2.foot k → y.foot k ∨ a ≤ k) ∧ ∀ k, ((y2.foot k ∨ X k) ∨ (a ≤ k ∧ k < a + 3)) → k < w2.heap.size := by
  obtain ⟨y2, h2, a2, d2, k2, f2⟩ := n
  refine ⟨y2, h2, a2, d2, ?_, k2, ?_, fun k hk => (f2 k hk).imp_right (by omega), ?_⟩
  · refine (r1.kept (k2.mono fun k _ hk => .inl (.inl hk))).mono fun k _ hg => ?_
    rcases hg with (hg | hg) | hg
    · rcases f2 k hg with h | h
      · exact .inl (.inl h)
      · exact .inr (by omega)
    · exact .inl (.inr hg)
    · exact .inr hg.1
  · intro k hk
    rcases f2 k hk with h | h
    · exact .inl (hfl k h)
    · exact .inr (by omega)
  · intro k hk
    have := k2.size
    rcases hk with (hk | hk) | hk
    · exact (h2.foot_lt hk).2
    · have := hX k hk; omega
    · omega
theorem four_far {w3 : World} {A i : Nat} {v : Value} (h : w3.cell? ⟨A + 1, i, none⟩ = some v) (c0 c1 c2 c3 : Value) : ((((w3.setCell ⟨A, 0, none⟩ c0).setCell ⟨A, 1, none⟩ c1).setCell ⟨A, 2, none⟩ c2).setCell ⟨A, 3, none⟩ c3).cell? ⟨A + 1, i, none⟩ = some v := by
  rw [World.cell?_setCell_other _ _ _ _ (by simp), World.cell?_setCell_other _ _ _ _ (by simp), World.cell?_setCell_other _ _ _ _ (by simp), World.cell?_setCell_other _ _ _ _ (by simp)]
  exact h
theorem four_ok {w3 : World} {A : Nat} {z : Array Value} {T : TypeId} {c0 c1 c2 c3 u0 u1 u2 u3 : Value} (hx : Blk w3 A T #[u0, u1, u2, u3]) (hz : Blk w3 (A + 1 + 1) T z) (w4 : World) (hw : w4 = (((w3.setCell ⟨A, 0, none⟩ c0).setCell ⟨A, 1, none⟩ c1).setCell ⟨A, 2, none⟩ c2).setCell ⟨A, 3, none⟩ c3) :
    Blk w4 A T #[c0, c1, c2, c3] ∧ Blk w4 (A + 1 + 1) T z ∧ Kept (fun k => A ≤ k ∧ k < A + 3) w3 w4 := by
  subst hw
  refine ⟨(((hx.set_ 0 c0).set_ 1 c1).set_ 2 c2).set_ 3 c3, ?_, ?_⟩
  · refine Blk.far (p := ⟨A, 3, none⟩) (Blk.far (p := ⟨A, 2, none⟩) (Blk.far (p := ⟨A, 1, none⟩) (Blk.far (p := ⟨A, 0, none⟩) hz ?_ _) ?_ _) ?_ _) ?_ _ <;> (show A + 1 + 1 ≠ A; omega)
  · exact ((((Kept.refl _ _).setCell (p := ⟨A, 0, none⟩) (.inl ⟨Nat.le_refl _, by show A < A + 3; omega⟩) _).setCell (p := ⟨A, 1, none⟩) (.inl ⟨Nat.le_refl _, by show A < A + 3; omega⟩) _).setCell (p := ⟨A, 2, none⟩) (.inl ⟨Nat.le_refl _, by show A < A + 3; omega⟩) _).setCell (p := ⟨A, 3, none⟩) (.inl ⟨Nat.le_refl _, by show A < A + 3; omega⟩) _
set_option maxHeartbeats 3200000 in
set_option maxRecDepth 100000 in
theorem play_1 (a : ActR) (y : Lay) (m : Ref) (w : World) (base : Nat) (h : DiskOK w base y) (X : Nat → Prop) (hX : ∀ k, X k → k < w.heap.size) (hr : RefOK w (fun k => y.foot k ∨ X k) m y.abs) (hw : y.wp.length ≤ 1000) (hb : base ≤ w.heap.size) (ha : ActOK w a) (hK : RVF w y.foot a.ka (cL a.keep)) (hkind : a.kind = 1) :
    Calls Try.prog 21 #[.pointer (some ⟨y.D, 0, none⟩), m.val y.abs.size y.abs.off, .agg #[.int .i64 a.kind, .int .i64 a.n, .int .i64 a.torn, .int .u8 (a.b.toNat : Int), .slice a.ka a.keep.length a.kc]] w (RetPlay X w base y) := by
  have hfl : ∀ k, y.foot k → k < w.heap.size := fun k hk => (h.foot_lt hk).2
  have r0 : RefOK w (fun k => (y.foot k ∨ X k) ∨ w.heap.size ≤ k) m y.abs := hr.mono fun k hk hg => by rcases hg with hg | hg; exact hg; omega
  have hs1 := h.s1
  have hs2 := h.s2
  have hwl : y.abs.wait.length ≤ 1000 := by rw [← wlen]; exact hw
  have hwe : y.abs.wait.length = y.wp.length := (wlen y).symm
  have HWE := Lib.hid hwe
  clear hwe
  obtain ⟨AL, kL, L, AW, kW, W⟩ := m
  have hki1 := ha.k1
  have hki2 := ha.k2
  have hn1 := ha.n1
  have hn2 := ha.n2
  have ht1 := ha.t1
  have ht2 := ha.t2
  have hkl := ha.l2
  have hzz : y.abs.size = y.size := rfl
  unfold Ref.val
  simp only
  rw [hzz]
  have RC : ∀ {f : FuncId} {xs : List Value} {w2 : World} {Q : Ending → World → Prop}, Calls Try.prog f ((Ref.val ⟨AL, kL, L, AW, kW, W⟩ y.abs.size y.abs.off :: xs).toArray) w2 Q → Calls Try.prog f ((.agg #[.int .i64 (y.size : Int), .slice AL L.length kL, .slice AW W.length kW, .bool y.abs.off] :: xs).toArray) w2 Q := fun h => h
  generalize hov : y.abs.off = ov at RC ⊢
  have HOV := Lib.hid hov
  have HRC : Hid (∀ {f : FuncId} {xs : List Value} {w2 : World} {Q : Ending → World → Prop}, Calls Try.prog f ((Ref.val ⟨AL, kL, L, AW, kW, W⟩ y.abs.size y.abs.off :: xs).toArray) w2 Q → Calls Try.prog f ((.agg #[.int .i64 (y.size : Int), .slice AL L.length kL, .slice AW W.length kW, .bool ov] :: xs).toArray) w2 Q) := by
    show ∀ {f : FuncId} {xs : List Value} {w2 : World} {Q : Ending → World → Prop}, Calls Try.prog f ((Ref.val ⟨AL, kL, L, AW, kW, W⟩ y.abs.size y.abs.off :: xs).toArray) w2 Q → Calls Try.prog f ((.agg #[.int .i64 (y.size : Int), .slice AL L.length kL, .slice AW W.length kW, .bool ov] :: xs).toArray) w2 Q
    rw [← HOV.out]
    exact fun h => h
  clear hov hr ha RC hzz
  have HKD := Lib.hid hkind
  clear hkind
  go_enter Try.func21, Try.ntmps21
  go_wp2_with fail
  have B1 : Below w.heap.size w (((w.alloc (.cells #[.int .i64 (y.size : Int), .slice AL L.length kL, .slice AW W.length kW, .bool ov] 51)).alloc (.cells #[.int .i64 a.kind, .int .i64 a.n, .int .i64 a.torn, .int .u8 (a.b.toNat : Int), .slice a.ka a.keep.length a.kc] 31)).alloc (.cells #[.int .i64 0, .slice none 0 0, .slice none 0 0, .bool false] 51)) := (((Below.refl _ _).alloc (Nat.le_refl _) _).alloc (by simp) _).alloc (by simp; omega) _
  refine (size_calls y _ base (h.below B1)).mono ?_
  rintro e w1 ⟨rfl, q1, rfl⟩
  have h1 : DiskOK ((((w.alloc (.cells #[.int .i64 (y.size : Int), .slice AL L.length kL, .slice AW W.length kW, .bool ov] 51)).alloc (.cells #[.int .i64 a.kind, .int .i64 a.n, .int .i64 a.torn, .int .u8 (a.b.toNat : Int), .slice a.ka a.keep.length a.kc] 31)).alloc (.cells #[.int .i64 0, .slice none 0 0, .slice none 0 0, .bool false] 51)).drewN q1) base y := (h.below B1).frame fun _ _ => rfl
  have x1 : Blk ((((w.alloc (.cells #[.int .i64 (y.size : Int), .slice AL L.length kL, .slice AW W.length kW, .bool ov] 51)).alloc (.cells #[.int .i64 a.kind, .int .i64 a.n, .int .i64 a.torn, .int .u8 (a.b.toNat : Int), .slice a.ka a.keep.length a.kc] 31)).alloc (.cells #[.int .i64 0, .slice none 0 0, .slice none 0 0, .bool false] 51)).drewN q1) w.heap.size 51 #[.int .i64 (y.size : Int), .slice AL L.length kL, .slice AW W.length kW, .bool ov] := ((Blk.new w _ _).alloc _).alloc _
  have t1 : Blk ((((w.alloc (.cells #[.int .i64 (y.size : Int), .slice AL L.length kL, .slice AW W.length kW, .bool ov] 51)).alloc (.cells #[.int .i64 a.kind, .int .i64 a.n, .int .i64 a.torn, .int .u8 (a.b.toNat : Int), .slice a.ka a.keep.length a.kc] 31)).alloc (.cells #[.int .i64 0, .slice none 0 0, .slice none 0 0, .bool false] 51)).drewN q1) (w.heap.size + 1) 31 #[.int .i64 a.kind, .int .i64 a.n, .int .i64 a.torn, .int .u8 (a.b.toNat : Int), .slice a.ka a.keep.length a.kc] := by
    have := (Blk.new (w.alloc (.cells #[.int .i64 (y.size : Int), .slice AL L.length kL, .slice AW W.length kW, .bool ov] 51)) 31 #[.int .i64 a.kind, .int .i64 a.n, .int .i64 a.torn, .int .u8 (a.b.toNat : Int), .slice a.ka a.keep.length a.kc]).alloc (.cells #[.int .i64 0, .slice none 0 0, .slice none 0 0, .bool false] 51)
    rw [World.size_alloc] at this
    exact this
  have z1 : Blk ((((w.alloc (.cells #[.int .i64 (y.size : Int), .slice AL L.length kL, .slice AW W.length kW, .bool ov] 51)).alloc (.cells #[.int .i64 a.kind, .int .i64 a.n, .int .i64 a.torn, .int .u8 (a.b.toNat : Int), .slice a.ka a.keep.length a.kc] 31)).alloc (.cells #[.int .i64 0, .slice none 0 0, .slice none 0 0, .bool false] 51)).drewN q1) (w.heap.size + 1 + 1) 51 #[.int .i64 0, .slice none 0 0, .slice none 0 0, .bool false] := by
    have := Blk.new ((w.alloc (.cells #[.int .i64 (y.size : Int), .slice AL L.length kL, .slice AW W.length kW, .bool ov] 51)).alloc (.cells #[.int .i64 a.kind, .int .i64 a.n, .int .i64 a.torn, .int .u8 (a.b.toNat : Int), .slice a.ka a.keep.length a.kc] 31)) 51 #[.int .i64 0, .slice none 0 0, .slice none 0 0, .bool false]
    rw [World.size_alloc, World.size_alloc] at this
    exact this
  have b1 : Below w.heap.size w ((((w.alloc (.cells #[.int .i64 (y.size : Int), .slice AL L.length kL, .slice AW W.length kW, .bool ov] 51)).alloc (.cells #[.int .i64 a.kind, .int .i64 a.n, .int .i64 a.torn, .int .u8 (a.b.toNat : Int), .slice a.ka a.keep.length a.kc] 31)).alloc (.cells #[.int .i64 0, .slice none 0 0, .slice none 0 0, .bool false] 51)).drewN q1) := ⟨B1.os, B1.tape, B1.output, B1.size, B1.block⟩
  generalize (((w.alloc (.cells #[.int .i64 (y.size : Int), .slice AL L.length kL, .slice AW W.length kW, .bool ov] 51)).alloc (.cells #[.int .i64 a.kind, .int .i64 a.n, .int .i64 a.torn, .int .u8 (a.b.toNat : Int), .slice a.ka a.keep.length a.kc] 31)).alloc (.cells #[.int .i64 0, .slice none 0 0, .slice none 0 0, .bool false] 51)).drewN q1 = w1 at h1 x1 t1 z1 b1 ⊢
  clear q1 B1
  have r1 := r0.below b1
  have hK1 := hK.below b1
  have l1 : w.heap.size + 3 ≤ w1.heap.size := z1.lt
  have a0 : w1.cell? ⟨w.heap.size + 1, 0, none⟩ = some (.int .i64 a.kind) := t1.at_ rfl
  have a1 : w1.cell? ⟨w.heap.size + 1, 1, none⟩ = some (.int .i64 a.n) := t1.at_ rfl
  have a2 : w1.cell? ⟨w.heap.size + 1, 2, none⟩ = some (.int .i64 a.torn) := t1.at_ rfl
  have a3 : w1.cell? ⟨w.heap.size + 1, 3, none⟩ = some (.int .u8 (a.b.toNat : Int)) := t1.at_ rfl
  have a4 : w1.cell? ⟨w.heap.size + 1, 4, none⟩ = some (.slice a.ka a.keep.length a.kc) := t1.at_ rfl
  clear r0
  rw [HKD.out] at a0
  go_wp2_with fail
  refine (flush_calls y w1 base h1 (by omega)).mono ?_
  rintro e w2 ⟨rfl, nx⟩
  obtain ⟨y2, h2, s2, d2, r2, k2, f2, nw2, lt2⟩ := play_next hfl hX r1 nx l1
  have x2 : Blk w2 w.heap.size 51 #[.int .i64 (y.size : Int), .slice AL L.length kL, .slice AW W.length kW, .bool ov] := (k2.block _ x1.lt (fun hf => by have := hfl _ hf; omega)).trans x1
  have t2 : Blk w2 (w.heap.size + 1) 31 #[.int .i64 a.kind, .int .i64 a.n, .int .i64 a.torn, .int .u8 (a.b.toNat : Int), .slice a.ka a.keep.length a.kc] := (k2.block _ t1.lt (fun hf => by have := hfl _ hf; omega)).trans t1
  have z2 : Blk w2 (w.heap.size + 1 + 1) 51 #[.int .i64 0, .slice none 0 0, .slice none 0 0, .bool false] := (k2.block _ z1.lt (fun hf => by have := hfl _ hf; omega)).trans z1
  have b2 : Kept y.foot w w2 := (Kept.of_below b1 _).trans k2
  have hK2 : RV w2 a.ka (cL a.keep) := (hK1.kept k2).rv
  have q0 : w2.cell? ⟨w.heap.size, 0, none⟩ = some (.int .i64 (y.size : Int)) := x2.at_ rfl
  have q1 : w2.cell? ⟨w.heap.size, 1, none⟩ = some (.slice AL L.length kL) := x2.at_ rfl
  have q2 : w2.cell? ⟨w.heap.size, 2, none⟩ = some (.slice AW W.length kW) := x2.at_ rfl
  have q3 : w2.cell? ⟨w.heap.size, 3, none⟩ = some (.bool ov) := x2.at_ rfl
  have c1 : w2.cell? ⟨w.heap.size + 1, 1, none⟩ = some (.int .i64 a.n) := t2.at_ rfl
  have c2 : w2.cell? ⟨w.heap.size + 1, 2, none⟩ = some (.int .i64 a.torn) := t2.at_ rfl
  have c3 : w2.cell? ⟨w.heap.size + 1, 3, none⟩ = some (.int .u8 (a.b.toNat : Int)) := t2.at_ rfl
  have c4 : w2.cell? ⟨w.heap.size + 1, 4, none⟩ = some (.slice a.ka a.keep.length a.kc) := t2.at_ rfl
  have l2 := z2.lt
  
  clear k2 x1 t1 z1 h1 r1 nx hK1 a0 a1 a2 a3 a4
  have RF := HRC.out (xs := []) (rflush_calls ⟨AL, kL, L, AW, kW, W⟩ y.abs _ w2 r2 lt2 (by omega))
  generalize hE : y.abs.flushE = ke at RF ⊢
  clear hE
  go_wp2_with fail
  refine RF.mono ?_
  clear RF
  rintro e w3 ⟨m3, rfl, r3, b3⟩
  have x3 := x2.below b3 x2.lt
  have z3 := z2.below b3 z2.lt
  have BO : Both X w base y (y.abs.flushS) w.heap.size y2 m3 w3 := ⟨h2.below b3, s2, d2, r3, f2, b2.trans (Kept.of_below b3 _), nw2, by unfold DiskP.Dsk.flushS; have := HWE.out; split <;> simp [Dsk.flush] <;> omega⟩
  have HEND := Lib.hid (fun w4 (hk : Kept (fun k => w.heap.size ≤ k ∧ k < w.heap.size + 3) w3 w4) => BO.end_ hk (Nat.le_refl _))
  obtain ⟨AL3, kL3, L3, AW3, kW3, W3⟩ := m3
  unfold Ref.val at HEND ⊢
  simp only at HEND ⊢
  generalize (y.abs.flushS).size = sz3 at HEND ⊢
  generalize (y.abs.flushS).off = of3 at HEND ⊢
  have q0 : w3.cell? ⟨w.heap.size, 0, none⟩ = some (.int .i64 (y.size : Int)) := x3.at_ rfl
  have q1 : w3.cell? ⟨w.heap.size, 1, none⟩ = some (.slice AL L.length kL) := x3.at_ rfl
  have q2 : w3.cell? ⟨w.heap.size, 2, none⟩ = some (.slice AW W.length kW) := x3.at_ rfl
  have q3 : w3.cell? ⟨w.heap.size, 3, none⟩ = some (.bool ov) := x3.at_ rfl
  have y0 := x3.frozen 0
  have y1 := x3.frozen 1
  have y2' := x3.frozen 2
  have y3 := x3.frozen 3
  have HX := Lib.hid x3
  have HZ := Lib.hid z3
  have l3 := z3.lt
  clear BO x2 z2 x3 z3 h2 s2 d2 r2 f2 nw2 lt2 r3 b3 b2 t2 c1 c2 c3 c4 HRC
  go_wp2_with ((with_reducible show wpList _ _ _ (⟨some 108, _, _, _, _, _⟩ :: _) _ _); refine wpList_abs (fun w4 => Blk w4 w.heap.size 51 #[.int .i64 (sz3 : Int), .slice AL3 L3.length kL3, .slice AW3 W3.length kW3, .bool of3] ∧ Blk w4 (w.heap.size + 1 + 1) 51 #[.int .i64 0, .slice none 0 0, .slice none 0 0, .bool false] ∧ Kept (fun k => w.heap.size ≤ k ∧ k < w.heap.size + 3) w3 w4) ?i1 ?_)
  case i1 => exact four_ok HX.out HZ.out _ rfl
  rintro w4 ⟨x4, z4, k4⟩
  have HK4 := Lib.hid k4
  have p0 : w4.cell? ⟨w.heap.size + 1 + 1, 0, none⟩ = some (.int .i64 0) := z4.at_ rfl
  have p1 : w4.cell? ⟨w.heap.size + 1 + 1, 1, none⟩ = some (.slice none 0 0) := z4.at_ rfl
  have p2 : w4.cell? ⟨w.heap.size + 1 + 1, 2, none⟩ = some (.slice none 0 0) := z4.at_ rfl
  have p3 : w4.cell? ⟨w.heap.size + 1 + 1, 3, none⟩ = some (.bool false) := z4.at_ rfl
  have t0 := z4.frozen 0
  have t1 := z4.frozen 1
  have t2 := z4.frozen 2
  have t3 := z4.frozen 3
  have s0 : w4.cell? ⟨w.heap.size, 0, none⟩ = some (.int .i64 (sz3 : Int)) := x4.at_ rfl
  have s1 : w4.cell? ⟨w.heap.size, 1, none⟩ = some (.slice AL3 L3.length kL3) := x4.at_ rfl
  have s2 : w4.cell? ⟨w.heap.size, 2, none⟩ = some (.slice AW3 W3.length kW3) := x4.at_ rfl
  have s3 : w4.cell? ⟨w.heap.size, 3, none⟩ = some (.bool of3) := x4.at_ rfl
  clear x4 z4 k4 HX HZ q0 q1 q2 q3 y0 y1 y2' y3
  go_wp2
  refine bodyPost_ret (v := .tuple #[.agg #[.int .i64 (sz3 : Int), .slice AL3 L3.length kL3, .slice AW3 W3.length kW3, .bool of3], .bool true]) (by simp [results, Try.results21, go_sem, p0, p1, p2, p3]) rfl (HEND.out _ (HK4.out.trans ?_))
  repeat (first | exact Kept.refl _ _ | refine Kept.setCell ?_ (.inl ⟨by show w.heap.size ≤ w.heap.size + 1 + 1; omega, by show w.heap.size + 1 + 1 < w.heap.size + 3; omega⟩) _)
set_option maxHeartbeats 3200000 in
set_option maxRecDepth 100000 in
theorem play_2 (a : ActR) (y : Lay) (m : Ref) (w : World) (base : Nat) (h : DiskOK w base y) (X : Nat → Prop) (hX : ∀ k, X k → k < w.heap.size) (hr : RefOK w (fun k => y.foot k ∨ X k) m y.abs) (hw : y.wp.length ≤ 1000) (hb : base ≤ w.heap.size) (ha : ActOK w a) (hK : RVF w y.foot a.ka (cL a.keep)) (hkind : a.kind = 2) :
    Calls Try.prog 21 #[.pointer (some ⟨y.D, 0, none⟩), m.val y.abs.size y.abs.off, .agg #[.int .i64 a.kind, .int .i64 a.n, .int .i64 a.torn, .int .u8 (a.b.toNat : Int), .slice a.ka a.keep.length a.kc]] w (RetPlay X w base y) := by
  have hfl : ∀ k, y.foot k → k < w.heap.size := fun k hk => (h.foot_lt hk).2
  have r0 : RefOK w (fun k => (y.foot k ∨ X k) ∨ w.heap.size ≤ k) m y.abs := hr.mono fun k hk hg => by rcases hg with hg | hg; exact hg; omega
  have hs1 := h.s1
  have hs2 := h.s2
  have hwl : y.abs.wait.length ≤ 1000 := by rw [← wlen]; exact hw
  have hwe : y.abs.wait.length = y.wp.length := (wlen y).symm
  have HWE := Lib.hid hwe
  clear hwe
  obtain ⟨AL, kL, L, AW, kW, W⟩ := m
  have hki1 := ha.k1
  have hki2 := ha.k2
  have hn1 := ha.n1
  have hn2 := ha.n2
  have ht1 := ha.t1
  have ht2 := ha.t2
  have hkl := ha.l2
  have hzz : y.abs.size = y.size := rfl
  unfold Ref.val
  simp only
  rw [hzz]
  have RC : ∀ {f : FuncId} {xs : List Value} {w2 : World} {Q : Ending → World → Prop}, Calls Try.prog f ((Ref.val ⟨AL, kL, L, AW, kW, W⟩ y.abs.size y.abs.off :: xs).toArray) w2 Q → Calls Try.prog f ((.agg #[.int .i64 (y.size : Int), .slice AL L.length kL, .slice AW W.length kW, .bool y.abs.off] :: xs).toArray) w2 Q := fun h => h
  generalize hov : y.abs.off = ov at RC ⊢
  have HOV := Lib.hid hov
  have HRC : Hid (∀ {f : FuncId} {xs : List Value} {w2 : World} {Q : Ending → World → Prop}, Calls Try.prog f ((Ref.val ⟨AL, kL, L, AW, kW, W⟩ y.abs.size y.abs.off :: xs).toArray) w2 Q → Calls Try.prog f ((.agg #[.int .i64 (y.size : Int), .slice AL L.length kL, .slice AW W.length kW, .bool ov] :: xs).toArray) w2 Q) := by
    show ∀ {f : FuncId} {xs : List Value} {w2 : World} {Q : Ending → World → Prop}, Calls Try.prog f ((Ref.val ⟨AL, kL, L, AW, kW, W⟩ y.abs.size y.abs.off :: xs).toArray) w2 Q → Calls Try.prog f ((.agg #[.int .i64 (y.size : Int), .slice AL L.length kL, .slice AW W.length kW, .bool ov] :: xs).toArray) w2 Q
    rw [← HOV.out]
    exact fun h => h
  clear hov hr ha RC hzz
  have HKD := Lib.hid hkind
  clear hkind
  go_enter Try.func21, Try.ntmps21
  go_wp2_with fail
  have B1 : Below w.heap.size w (((w.alloc (.cells #[.int .i64 (y.size : Int), .slice AL L.length kL, .slice AW W.length kW, .bool ov] 51)).alloc (.cells #[.int .i64 a.kind, .int .i64 a.n, .int .i64 a.torn, .int .u8 (a.b.toNat : Int), .slice a.ka a.keep.length a.kc] 31)).alloc (.cells #[.int .i64 0, .slice none 0 0, .slice none 0 0, .bool false] 51)) := (((Below.refl _ _).alloc (Nat.le_refl _) _).alloc (by simp) _).alloc (by simp; omega) _
  refine (size_calls y _ base (h.below B1)).mono ?_
  rintro e w1 ⟨rfl, q1, rfl⟩
  have h1 : DiskOK ((((w.alloc (.cells #[.int .i64 (y.size : Int), .slice AL L.length kL, .slice AW W.length kW, .bool ov] 51)).alloc (.cells #[.int .i64 a.kind, .int .i64 a.n, .int .i64 a.torn, .int .u8 (a.b.toNat : Int), .slice a.ka a.keep.length a.kc] 31)).alloc (.cells #[.int .i64 0, .slice none 0 0, .slice none 0 0, .bool false] 51)).drewN q1) base y := (h.below B1).frame fun _ _ => rfl
  have x1 : Blk ((((w.alloc (.cells #[.int .i64 (y.size : Int), .slice AL L.length kL, .slice AW W.length kW, .bool ov] 51)).alloc (.cells #[.int .i64 a.kind, .int .i64 a.n, .int .i64 a.torn, .int .u8 (a.b.toNat : Int), .slice a.ka a.keep.length a.kc] 31)).alloc (.cells #[.int .i64 0, .slice none 0 0, .slice none 0 0, .bool false] 51)).drewN q1) w.heap.size 51 #[.int .i64 (y.size : Int), .slice AL L.length kL, .slice AW W.length kW, .bool ov] := ((Blk.new w _ _).alloc _).alloc _
  have t1 : Blk ((((w.alloc (.cells #[.int .i64 (y.size : Int), .slice AL L.length kL, .slice AW W.length kW, .bool ov] 51)).alloc (.cells #[.int .i64 a.kind, .int .i64 a.n, .int .i64 a.torn, .int .u8 (a.b.toNat : Int), .slice a.ka a.keep.length a.kc] 31)).alloc (.cells #[.int .i64 0, .slice none 0 0, .slice none 0 0, .bool false] 51)).drewN q1) (w.heap.size + 1) 31 #[.int .i64 a.kind, .int .i64 a.n, .int .i64 a.torn, .int .u8 (a.b.toNat : Int), .slice a.ka a.keep.length a.kc] := by
    have := (Blk.new (w.alloc (.cells #[.int .i64 (y.size : Int), .slice AL L.length kL, .slice AW W.length kW, .bool ov] 51)) 31 #[.int .i64 a.kind, .int .i64 a.n, .int .i64 a.torn, .int .u8 (a.b.toNat : Int), .slice a.ka a.keep.length a.kc]).alloc (.cells #[.int .i64 0, .slice none 0 0, .slice none 0 0, .bool false] 51)
    rw [World.size_alloc] at this
    exact this
  have z1 : Blk ((((w.alloc (.cells #[.int .i64 (y.size : Int), .slice AL L.length kL, .slice AW W.length kW, .bool ov] 51)).alloc (.cells #[.int .i64 a.kind, .int .i64 a.n, .int .i64 a.torn, .int .u8 (a.b.toNat : Int), .slice a.ka a.keep.length a.kc] 31)).alloc (.cells #[.int .i64 0, .slice none 0 0, .slice none 0 0, .bool false] 51)).drewN q1) (w.heap.size + 1 + 1) 51 #[.int .i64 0, .slice none 0 0, .slice none 0 0, .bool false] := by
    have := Blk.new ((w.alloc (.cells #[.int .i64 (y.size : Int), .slice AL L.length kL, .slice AW W.length kW, .bool ov] 51)).alloc (.cells #[.int .i64 a.kind, .int .i64 a.n, .int .i64 a.torn, .int .u8 (a.b.toNat : Int), .slice a.ka a.keep.length a.kc] 31)) 51 #[.int .i64 0, .slice none 0 0, .slice none 0 0, .bool false]
    rw [World.size_alloc, World.size_alloc] at this
    exact this
  have b1 : Below w.heap.size w ((((w.alloc (.cells #[.int .i64 (y.size : Int), .slice AL L.length kL, .slice AW W.length kW, .bool ov] 51)).alloc (.cells #[.int .i64 a.kind, .int .i64 a.n, .int .i64 a.torn, .int .u8 (a.b.toNat : Int), .slice a.ka a.keep.length a.kc] 31)).alloc (.cells #[.int .i64 0, .slice none 0 0, .slice none 0 0, .bool false] 51)).drewN q1) := ⟨B1.os, B1.tape, B1.output, B1.size, B1.block⟩
  generalize (((w.alloc (.cells #[.int .i64 (y.size : Int), .slice AL L.length kL, .slice AW W.length kW, .bool ov] 51)).alloc (.cells #[.int .i64 a.kind, .int .i64 a.n, .int .i64 a.torn, .int .u8 (a.b.toNat : Int), .slice a.ka a.keep.length a.kc] 31)).alloc (.cells #[.int .i64 0, .slice none 0 0, .slice none 0 0, .bool false] 51)).drewN q1 = w1 at h1 x1 t1 z1 b1 ⊢
  clear q1 B1
  have r1 := r0.below b1
  have hK1 := hK.below b1
  have l1 : w.heap.size + 3 ≤ w1.heap.size := z1.lt
  have a0 : w1.cell? ⟨w.heap.size + 1, 0, none⟩ = some (.int .i64 a.kind) := t1.at_ rfl
  have a1 : w1.cell? ⟨w.heap.size + 1, 1, none⟩ = some (.int .i64 a.n) := t1.at_ rfl
  have a2 : w1.cell? ⟨w.heap.size + 1, 2, none⟩ = some (.int .i64 a.torn) := t1.at_ rfl
  have a3 : w1.cell? ⟨w.heap.size + 1, 3, none⟩ = some (.int .u8 (a.b.toNat : Int)) := t1.at_ rfl
  have a4 : w1.cell? ⟨w.heap.size + 1, 4, none⟩ = some (.slice a.ka a.keep.length a.kc) := t1.at_ rfl
  clear r0
  rw [HKD.out] at a0
  go_wp2_with fail
  refine (cut_calls y a.keep a.ka a.kc a.torn w1 base h1 (by omega) hkl hK1).mono ?_
  rintro e w2 ⟨rfl, nx⟩
  obtain ⟨y2, h2, s2, d2, r2, k2, f2, nw2, lt2⟩ := play_next hfl hX r1 nx l1
  have x2 : Blk w2 w.heap.size 51 #[.int .i64 (y.size : Int), .slice AL L.length kL, .slice AW W.length kW, .bool ov] := (k2.block _ x1.lt (fun hf => by have := hfl _ hf; omega)).trans x1
  have t2 : Blk w2 (w.heap.size + 1) 31 #[.int .i64 a.kind, .int .i64 a.n, .int .i64 a.torn, .int .u8 (a.b.toNat : Int), .slice a.ka a.keep.length a.kc] := (k2.block _ t1.lt (fun hf => by have := hfl _ hf; omega)).trans t1
  have z2 : Blk w2 (w.heap.size + 1 + 1) 51 #[.int .i64 0, .slice none 0 0, .slice none 0 0, .bool false] := (k2.block _ z1.lt (fun hf => by have := hfl _ hf; omega)).trans z1
  have b2 : Kept y.foot w w2 := (Kept.of_below b1 _).trans k2
  have hK2 : RV w2 a.ka (cL a.keep) := (hK1.kept k2).rv
  have q0 : w2.cell? ⟨w.heap.size, 0, none⟩ = some (.int .i64 (y.size : Int)) := x2.at_ rfl
  have q1 : w2.cell? ⟨w.heap.size, 1, none⟩ = some (.slice AL L.length kL) := x2.at_ rfl
  have q2 : w2.cell? ⟨w.heap.size, 2, none⟩ = some (.slice AW W.length kW) := x2.at_ rfl
  have q3 : w2.cell? ⟨w.heap.size, 3, none⟩ = some (.bool ov) := x2.at_ rfl
  have c1 : w2.cell? ⟨w.heap.size + 1, 1, none⟩ = some (.int .i64 a.n) := t2.at_ rfl
  have c2 : w2.cell? ⟨w.heap.size + 1, 2, none⟩ = some (.int .i64 a.torn) := t2.at_ rfl
  have c3 : w2.cell? ⟨w.heap.size + 1, 3, none⟩ = some (.int .u8 (a.b.toNat : Int)) := t2.at_ rfl
  have c4 : w2.cell? ⟨w.heap.size + 1, 4, none⟩ = some (.slice a.ka a.keep.length a.kc) := t2.at_ rfl
  have l2 := z2.lt
  
  clear k2 x1 t1 z1 h1 r1 nx hK1 a0 a1 a2 a3 a4
  have RF := HRC.out (xs := [.slice a.ka a.keep.length a.kc, .int .i64 a.torn]) (rcut_calls ⟨AL, kL, L, AW, kW, W⟩ y.abs _ a.keep a.ka a.kc a.torn w2 r2 lt2 (by omega) hK2 hkl)
  go_wp2_with fail
  refine RF.mono ?_
  clear RF
  rintro e w3 ⟨m3, rfl, r3, b3⟩
  have x3 := x2.below b3 x2.lt
  have z3 := z2.below b3 z2.lt
  have BO : Both X w base y (y.abs.cut a.keep a.torn) w.heap.size y2 m3 w3 := ⟨h2.below b3, s2, d2, r3, f2, b2.trans (Kept.of_below b3 _), nw2, by unfold Dsk.cut; have := HWE.out; split <;> simp <;> omega⟩
  have HEND := Lib.hid (fun w4 (hk : Kept (fun k => w.heap.size ≤ k ∧ k < w.heap.size + 3) w3 w4) => BO.end_ hk (Nat.le_refl _))
  obtain ⟨AL3, kL3, L3, AW3, kW3, W3⟩ := m3
  unfold Ref.val at HEND ⊢
  simp only at HEND ⊢
  generalize (y.abs.cut a.keep a.torn).size = sz3 at HEND ⊢
  generalize (y.abs.cut a.keep a.torn).off = of3 at HEND ⊢
  have q0 : w3.cell? ⟨w.heap.size, 0, none⟩ = some (.int .i64 (y.size : Int)) := x3.at_ rfl
  have q1 : w3.cell? ⟨w.heap.size, 1, none⟩ = some (.slice AL L.length kL) := x3.at_ rfl
  have q2 : w3.cell? ⟨w.heap.size, 2, none⟩ = some (.slice AW W.length kW) := x3.at_ rfl
  have q3 : w3.cell? ⟨w.heap.size, 3, none⟩ = some (.bool ov) := x3.at_ rfl
  have y0 := x3.frozen 0
  have y1 := x3.frozen 1
  have y2' := x3.frozen 2
  have y3 := x3.frozen 3
  have HX := Lib.hid x3
  have HZ := Lib.hid z3
  have l3 := z3.lt
  clear BO x2 z2 x3 z3 h2 s2 d2 r2 f2 nw2 lt2 r3 b3 b2 t2 c1 c2 c3 c4 HRC
  go_wp2_with ((with_reducible show wpList _ _ _ (⟨some 108, _, _, _, _, _⟩ :: _) _ _); refine wpList_abs (fun w4 => Blk w4 w.heap.size 51 #[.int .i64 (sz3 : Int), .slice AL3 L3.length kL3, .slice AW3 W3.length kW3, .bool of3] ∧ Blk w4 (w.heap.size + 1 + 1) 51 #[.int .i64 0, .slice none 0 0, .slice none 0 0, .bool false] ∧ Kept (fun k => w.heap.size ≤ k ∧ k < w.heap.size + 3) w3 w4) ?i1 ?_)
  case i1 => exact four_ok HX.out HZ.out _ rfl
  rintro w4 ⟨x4, z4, k4⟩
  have HK4 := Lib.hid k4
  have p0 : w4.cell? ⟨w.heap.size + 1 + 1, 0, none⟩ = some (.int .i64 0) := z4.at_ rfl
  have p1 : w4.cell? ⟨w.heap.size + 1 + 1, 1, none⟩ = some (.slice none 0 0) := z4.at_ rfl
  have p2 : w4.cell? ⟨w.heap.size + 1 + 1, 2, none⟩ = some (.slice none 0 0) := z4.at_ rfl
  have p3 : w4.cell? ⟨w.heap.size + 1 + 1, 3, none⟩ = some (.bool false) := z4.at_ rfl
  have t0 := z4.frozen 0
  have t1 := z4.frozen 1
  have t2 := z4.frozen 2
  have t3 := z4.frozen 3
  have s0 : w4.cell? ⟨w.heap.size, 0, none⟩ = some (.int .i64 (sz3 : Int)) := x4.at_ rfl
  have s1 : w4.cell? ⟨w.heap.size, 1, none⟩ = some (.slice AL3 L3.length kL3) := x4.at_ rfl
  have s2 : w4.cell? ⟨w.heap.size, 2, none⟩ = some (.slice AW3 W3.length kW3) := x4.at_ rfl
  have s3 : w4.cell? ⟨w.heap.size, 3, none⟩ = some (.bool of3) := x4.at_ rfl
  clear x4 z4 k4 HX HZ q0 q1 q2 q3 y0 y1 y2' y3
  go_wp2
  refine bodyPost_ret (v := .tuple #[.agg #[.int .i64 (sz3 : Int), .slice AL3 L3.length kL3, .slice AW3 W3.length kW3, .bool of3], .bool true]) (by simp [results, Try.results21, go_sem, p0, p1, p2, p3]) rfl (HEND.out _ (HK4.out.trans ?_))
  repeat (first | exact Kept.refl _ _ | refine Kept.setCell ?_ (.inl ⟨by show w.heap.size ≤ w.heap.size + 1 + 1; omega, by show w.heap.size + 1 + 1 < w.heap.size + 3; omega⟩) _)
end Go.Proofs.Ytmemkoiooanhkaa
