/-
  What stands while a log is turned.
-/
import Derived.Test.YtpojlchikaffhaaDoorJourAdd
namespace Go.Proofs.YtpojlchikaffhaaDoor
open Go.RowKit DiskP SumP PageP JourP

/-- What is neither a log's struct nor its disk stays; what is new of the disk lies in new blocks. -/
def FootD (w : World) (G : Nat) (y y' : Lay) (w' : World) : Prop := Kept (fun k => k = G ∨ y.foot k) w w' ∧ ∀ k, y'.foot k → y.foot k ∨ w.heap.size ≤ k
theorem FootD.trans {a b c : World} {G : Nat} {y y' y'' : Lay} (h : FootD a G y y' b) (k : FootD b G y' y'' c) : FootD a G y y'' c := by
  obtain ⟨h1, h2⟩ := h
  obtain ⟨k1, k2⟩ := k
  have hs := h1.size
  refine ⟨⟨k1.os.trans h1.os, k1.tape.trans h1.tape, k1.output.trans h1.output, Nat.le_trans h1.size k1.size, fun i hi hf => (k1.block i (by omega) fun hf' => ?_).trans (h1.block i hi hf)⟩, fun i hi => ?_⟩
  · rcases hf' with e | hf'
    · exact hf (.inl e)
    · rcases h2 i hf' with e | e
      · exact hf (.inr e)
      · omega
  · rcases k2 i hi with e | e
    · exact h2 i e
    · exact .inr (by omega)
theorem FootD.below {w w' : World} {G : Nat} {y : Lay} (b : Below w.heap.size w w') : FootD w G y y w' := ⟨Kept.of_below b _, fun _ hk => .inl hk⟩
theorem FootD.disk {w w' : World} {G : Nat} {y y' : Lay} (h4 : Kept y.foot w w') (h5 : ∀ k, y'.foot k → y.foot k ∨ w.heap.size ≤ k) : FootD w G y y' w' := ⟨h4.mono fun _k _ hk => .inr hk, h5⟩
theorem FootD.struct {w w' : World} {G : Nat} {y : Lay} (h : Kept (fun k => k = G) w w') : FootD w G y y w' := ⟨h.mono fun _k _ hk => .inl hk, fun _ hk => .inl hk⟩
/-- While a log is turned to the records ks, of the row v: its disk is S. -/
structure TurnR (w : World) (base : Nat) (j : JL) (v : Value) (ks : List RecR) (S : Dsk) (wr : World) (y' : Lay) : Prop where
  abs : y'.abs = S
  D : y'.D = j.y.D
  ok : JOK wr base { j with y := y' }
  kp : KeepR wr base j.G y' v ks
  fn : FootD w j.G j.y y' wr
def TurnX (w : World) (base : Nat) (j : JL) (v : Value) (ks : List RecR) (S : Dsk) (wr : World) : Prop := ∃ y', TurnR w base j v ks S wr y'
section
variable {w wr w4 w5 : World} {base : Nat} {j : JL} {v : Value} {ks : List RecR} {S S' : Dsk} {y' : Lay}
theorem TurnR.below (h : TurnR w base j v ks S wr y') (b : Below wr.heap.size wr w4) : TurnR w base j v ks S w4 y' := ⟨h.abs, h.D, h.ok.below b, h.kp.below b, h.fn.trans (FootD.below b)⟩
theorem TurnR.next (h : TurnR w base j v ks S wr y') (n : Next wr base y' S' w5) : TurnX w base j v ks S' w5 := by
  obtain ⟨z, z1, z2, z3, z4, z5⟩ := h.ok.disk n
  exact ⟨z, z1, z2.trans h.D, z3, h.kp.disk z4 z5, h.fn.trans (FootD.disk z4 z5)⟩
theorem TurnR.lens (h : TurnR w base j v ks S wr y') : y'.lp.length = S.last.length ∧ y'.size = S.size ∧ y'.wp.length = S.wait.length ∧ y'.off = S.off := by
  rw [← h.abs]
  simp [Lay.abs]
theorem TurnR.gk (h : TurnR w base j v ks S wr y') : Blk wr j.G 76 j.cells := by
  have := h.ok.gk
  unfold JL.cells at this ⊢
  simp only [h.D] at this
  exact this
/-- A record of the row. -/
theorem TurnR.recAt (h : TurnR w base j v ks S wr y') {k : Nat} {x : RecR} (hk : ks[k]? = some x) : ∃ g c, v = .slice (some ⟨g, 0, none⟩) ks.length c ∧ g < wr.heap.size ∧
    wr.cell? ⟨g, k * 2, none⟩ = some (.int .u8 (x.kind.toNat : Int)) ∧ wr.cell? ⟨g, k * 2 + 1, none⟩ = some (.slice x.A x.body.length x.cap) ∧ RecOK wr y'.foot x := by
  obtain ⟨g, c, e, _, h1, h2, h3⟩ := rec_cells h.kp.row hk
  exact ⟨g, c, e, h1, h2, h3, (h.kp.row.ks x (List.mem_of_getElem? hk)).mono fun k _ hf => .inr (.inr hf)⟩
theorem TurnR.start (h : JOK w base j) (hk : KeepR w base j.G j.y v ks) : TurnR w base j v ks j.y.abs w j.y := ⟨rfl, rfl, h, hk, ⟨Kept.refl _ _, fun _ hk => .inl hk⟩⟩
theorem TurnR.keep (_h : TurnR w base j v ks S wr y') (b : Below wr.heap.size wr w4) {_k g : Nat} (hf : ¬ y'.foot g) (hg : g < wr.heap.size) (n : Next w4 base y' S' w5) : w5.heap[g]? = wr.heap[g]? := by
  obtain ⟨z, z1, z2, z3, z4, z5⟩ := n
  exact (z4.block g (by have := b.size; omega) hf).trans (b.block g hg)
end
theorem zerosD_next {d : Dsk} {a k sz : Nat} (ho : d.off = false) (hs : d.size = sz) (h : a + k < d.last.length) : (zerosD d a k).writeE ((a + k : Nat) : Int) (List.replicate sz 0) = 0 ∧ (zerosD d a k).writeS ((a + k : Nat) : Int) (List.replicate sz 0) = zerosD d a (k + 1) := by
  subst hs
  have hh : (zerosD d a k).has ((a + k : Nat) : Int) = true := by
    unfold Dsk.has
    have : (zerosD d a k).last.length = d.last.length := rfl
    rw [this]
    simp
    omega
  have hE : (zerosD d a k).writeE ((a + k : Nat) : Int) (List.replicate d.size 0) = 0 := by
    unfold Dsk.writeE
    have e1 : (zerosD d a k).size = d.size := rfl
    have e2 : (zerosD d a k).off = d.off := rfl
    rw [hh, e1, e2, ho, if_neg (by decide), if_neg (by simp)]
    rfl
  refine ⟨hE, ?_⟩
  unfold DiskP.Dsk.writeS
  rw [if_pos hE, zerosD_succ, Int.toNat_natCast]
theorem zerosD_wait (d : Dsk) (a k : Nat) : (zerosD d a k).wait.length = d.wait.length + k := by simp [zerosD]
/-- What turning gives back. -/
def RetTurn (w : World) (base : Nat) (j : JL) (u e' a' : Nat) (v : Value) (ks : List RecR) (S : Dsk) (e : Ending) (w' : World) : Prop :=
  e = .returned (.int .i64 0) ∧ ∃ y', y'.abs = S ∧ y'.D = j.y.D ∧ JOK w' base { j with y := y', use := (u : Int), epoch := (e' : Int), at_ := (a' : Int), v := v, rs := ks } ∧ FootD w j.G j.y y' w'
/-- What a log that is to be turned says of itself. -/
structure TurnP (j : JL) (f h u e : Nat) (ks : List RecR) : Prop where
  ffrom : j.from_ = (f : Int)
  fhalf : j.half = (h : Int)
  fsize : j.size = (j.y.size : Int)
  fuse : j.use = (u : Int)
  fe : j.epoch = (e : Int)
  hu : u ≤ 1
  hB : Base j.y.abs (f + (1 - u) * h) (f + u * h) h (e + 1) (ks.map RecR.abs)
  hw : j.y.wp.length ≤ 200000
theorem TurnR.gkP {w wr : World} {base : Nat} {j : JL} {v : Value} {ks : List RecR} {S : Dsk} {y' : Lay} {f h u e : Nat} (t : TurnR w base j v ks S wr y') (hP : TurnP j f h u e ks) : Blk wr j.G 76 #[.pointer (some ⟨y'.D, 0, none⟩), .int .i64 (f : Int), .int .i64 (h : Int), .int .i64 (j.y.size : Int), .int .i64 (u : Int), .int .i64 (e : Int), .int .i64 j.at_, j.v] := by
  have := t.ok.gk
  unfold JL.cells at this
  simp only [hP.ffrom, hP.fhalf, hP.fsize, hP.fuse, hP.fe] at this
  exact this
/-- The end: its struct is stored. -/
theorem TurnR.stored {w wr : World} {base : Nat} {j : JL} {v : Value} {ks : List RecR} {S : Dsk} {y' : Lay} {f h u e : Nat} (t : TurnR w base j v ks S wr y') (hP : TurnP j f h u e ks) (a u' e' : Nat) :
    RetTurn w base j u' e' a v ks S (.returned (.int .i64 0)) ((((wr.setCell ⟨j.G, 4, none⟩ (.int .i64 (u' : Int))).setCell ⟨j.G, 5, none⟩ (.int .i64 (e' : Int))).setCell ⟨j.G, 6, none⟩ (.int .i64 (a : Int))).setCell ⟨j.G, 7, none⟩ v) := by
  have gk := t.gkP hP
  have K : Kept (fun k => k = j.G) wr ((((wr.setCell ⟨j.G, 4, none⟩ (.int .i64 (u' : Int))).setCell ⟨j.G, 5, none⟩ (.int .i64 (e' : Int))).setCell ⟨j.G, 6, none⟩ (.int .i64 (a : Int))).setCell ⟨j.G, 7, none⟩ v) := ((((Kept.refl (fun k => k = j.G) wr).setCell (p := ⟨j.G, 4, none⟩) (.inl rfl) _).setCell (p := ⟨j.G, 5, none⟩) (.inl rfl) _).setCell (p := ⟨j.G, 6, none⟩) (.inl rfl) _).setCell (p := ⟨j.G, 7, none⟩) (.inl rfl) _
  have g1 := (((gk.set_ 4 (.int .i64 (u' : Int))).set_ 5 (.int .i64 (e' : Int))).set_ 6 (.int .i64 (a : Int))).set_ 7 v
  refine ⟨rfl, y', t.abs, t.D, t.ok.struct (j' := { j with y := y', use := (u' : Int), epoch := (e' : Int), at_ := (a : Int), v := v, rs := ks }) K rfl rfl ?_ t.kp, t.fn.trans (FootD.struct K)⟩
  unfold JL.cells
  simp only [hP.ffrom, hP.fhalf, hP.fsize]
  exact g1
theorem TurnR.storedAt {w wr : World} {base : Nat} {j : JL} {v : Value} {ks : List RecR} {S : Dsk} {y' : Lay} {f h u e : Nat} (t : TurnR w base j v ks S wr y') (hP : TurnP j f h u e ks) (a u' e' : Nat) (z : Nat) (hz : a = z) :
    RetTurn w base j u' e' z v ks S (.returned (.int .i64 0)) ((((wr.setCell ⟨j.G, 4, none⟩ (.int .i64 (u' : Int))).setCell ⟨j.G, 5, none⟩ (.int .i64 (e' : Int))).setCell ⟨j.G, 6, none⟩ (.int .i64 (a : Int))).setCell ⟨j.G, 7, none⟩ v) := by
  subst hz
  exact t.stored hP a u' e'
end Go.Proofs.YtpojlchikaffhaaDoor
