/-
  A log whose disk is cut, on again, and opened anew.
-/
import Derived.Test.YtpojlchikaffhaaDoorJourHeads
import Derived.Test.YtpojlchikaffhaaDoorJourFresh
namespace Go.Proofs.YtpojlchikaffhaaDoor
open Go.RowKit DiskP SumP PageP JourP

/-- A disk that is told as d, in the place of y. -/
structure CutD (w : World) (base : Nat) (y : Lay) (d : Dsk) (w' : World) (y' : Lay) : Prop where
  ok : DiskOK w' base y'
  abs : y'.abs = d
  D : y'.D = y.D
  size : y'.size = y.size
  len : y'.lp.length = y.lp.length
  kept : Kept y.foot w w'
  foot : ∀ k, y'.foot k → y.foot k ∨ w.heap.size ≤ k
theorem cut_last (d : Dsk) (keep : List Bool) (torn : Int) : (d.cut keep torn).last.length = d.last.length ∧ (d.cut keep torn).size = d.size := by
  unfold Dsk.cut
  split
  · exact ⟨rfl, rfl⟩
  · exact ⟨applyW_length _ _, rfl⟩
/-- Behind Cut. -/
theorem cut_state {w w1 : World} {base : Nat} {y : Lay} {keep : List Bool} {torn : Int} (n : Next w base y (y.abs.cut keep torn) w1) : ∃ y1, CutD w base y (y.abs.cut keep torn) w1 y1 := by
  obtain ⟨y1, h1, h2, h3, h4, h5⟩ := n
  obtain ⟨c1, c2⟩ := cut_last y.abs keep torn
  exact ⟨y1, h1, h2, h3, (congrArg Dsk.size h2).trans c2, Lay.last_len h2 c1, h4, h5⟩
/-- And behind On. -/
theorem on_state {w w1 w2 : World} {base : Nat} {y y1 : Lay} {d : Dsk} (c : CutD w base y d w1 y1) (n : Next w1 base y1 y1.abs.on w2) : ∃ y2, CutD w base y d.on w2 y2 := by
  obtain ⟨y2, h1, h2, h3, h4, h5⟩ := n
  have hs := c.kept.size
  refine ⟨y2, h1, by rw [h2, c.abs], h3.trans c.D, (congrArg Dsk.size h2).trans c.size, (Lay.last_len h2 rfl).trans c.len, ⟨h4.os.trans c.kept.os, h4.tape.trans c.kept.tape, h4.output.trans c.kept.output, Nat.le_trans hs h4.size, fun k hk hf => ?_⟩, fun k hk => ?_⟩
  · exact (h4.block k (by omega) (fun hf1 => by
      rcases c.foot k hf1 with h | h
      · exact hf h
      · omega)).trans (c.kept.block k hk hf)
  · rcases h5 k hk with h | h
    · exact c.foot k h
    · exact .inr (by omega)
theorem CutD.below {w w' w2 : World} {base : Nat} {y y' : Lay} {d : Dsk} (c : CutD w base y d w' y') (b : Below w'.heap.size w' w2) : CutD w base y d w2 y' := by
  have hs := c.kept.size
  exact ⟨c.ok.below b, c.abs, c.D, c.size, c.len, ⟨b.os.trans c.kept.os, b.tape.trans c.kept.tape, b.output.trans c.kept.output, Nat.le_trans hs b.size, fun k hk hf => (b.block k (by omega)).trans (c.kept.block k hk hf)⟩, c.foot⟩
/-- A log of n sectors, of which d tells what a cut left, is opened anew. -/
theorem reopen_calls {w w2 : World} {base : Nat} {y y2 : Lay} {d : Dsk} (c : CutD w base y d w2 y2) {f s u e : Nat} {rs : List Rec} {lasts : Nat} (hq : goodP (y.lp.length : Int) (y.size : Int) (f : Int) (s : Int)) (D : Dam d (f + u * (s / 2)) (f + (1 - u) * (s / 2)) (s / 2) e rs lasts) (hu : u ≤ 1) (he : e < 1000000) (hT : Tab w2) (hbase : base ≤ w2.heap.size) (hg : 0 < base) :
    Calls Tryd.prog 17 #[.pointer (some ⟨y.D, 0, none⟩), .int .i64 (f : Int), .int .i64 (s : Int)] w2 (RetOpen w2 base y2 f (s / 2) u e true rs lasts) := by
  have := jopen_dam y2 f s u e rs lasts w2 base c.ok (by rw [c.len, c.size]; exact hq) (by rw [c.abs]; exact D) hu he hT hbase hg
  rw [c.D] at this
  exact this
/-- An opened log, apart from what is no disk's. -/
theorem open_kept {w w1 : World} {base : Nat} {y : Lay} {F G : Nat → Prop} {j : JL} (_hbase : DiskOK w base y) (K : Kept y.foot w w1) (hf : ∀ i, j.foot i → y.foot i ∨ w.heap.size ≤ i) {x : XL} (hx : XOK w F x) (hF : ∀ k, y.foot k → F k) (hG : ∀ k, G k → F k ∨ w.heap.size ≤ k) : XOK w1 (fun k => j.foot k ∨ G k) x :=
  hx.next (K.mono fun k _ hk => hF k hk) fun k hk hg => by
    rcases hg with hg | hg
    · rcases hf k hg with h | h
      · exact hF k h
      · omega
    · rcases hG k hg with h | h
      · exact h
      · omega
theorem CutD.then {w w' w2 : World} {base : Nat} {y y' : Lay} {d : Dsk} (c : CutD w base y d w' y') (K : Kept y'.foot w' w2) : Kept y.foot w w2 := by
  have hs := c.kept.size
  exact ⟨K.os.trans c.kept.os, K.tape.trans c.kept.tape, K.output.trans c.kept.output, Nat.le_trans hs K.size, fun k hk hf => (K.block k (by omega) (fun hf1 => by
    rcases c.foot k hf1 with h | h
    · exact hf h
    · omega)).trans (c.kept.block k hk hf)⟩
/-- What was handed in, apart from all that the call made. -/
theorem rv_far {w w' : World} {F : Nat → Prop} {A : Option Addr} {vs : List Value} (h : RV w A vs) (b : Below w.heap.size w w') (hF : ∀ k, F k → w.heap.size ≤ k) : RVF w' F A vs := fun hne => by
  obtain ⟨g, off, e, h1, h2⟩ := h hne
  obtain ⟨g', off', e', h3, h4⟩ := (h.below b) hne
  rw [e] at e'
  injection e' with e'
  injection e' with e1 e2
  subst e1 e2
  exact ⟨g, off, e, h3, fun hf => by have := hF g hf; omega, h4⟩
theorem NextJ.lower {w w' : World} {base : Nat} {j : JL} {p' : PJ} (n : NextJ w base j p' w') (h : JOK w base j) (hb : base ≤ w.heap.size) : Below base w w' := by
  obtain ⟨_, _, _, _, _, K, _⟩ := n
  exact K.below (fun k _ hk => (h.foot_lt hk).1) hb
theorem CutD.lower {w w' : World} {base : Nat} {y y' : Lay} {d : Dsk} (c : CutD w base y d w' y') (h : DiskOK w base y) (hb : base ≤ w.heap.size) : Below base w w' :=
  c.kept.below (fun _ _ hk => (h.foot_lt hk).1) hb
end Go.Proofs.YtpojlchikaffhaaDoor
