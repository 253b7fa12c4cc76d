/-
  Two logs while a statement does its acts.
-/
import Derived.Test.YtpojlchikaffhaaDoorJourLOpen
import Derived.Test.YtpojlchikaffhaaDoorJourCut
namespace Go.Proofs.YtpojlchikaffhaaDoor
open Go.RowKit DiskP SumP PageP JourP

/-- The cells of the document's log. -/
def XL.cells (x : XL) : Array Value := #[.slice x.A x.rs.length x.cap, .int .i64 (x.lasts : Int), .int .i64 x.half, .int .i64 x.size, .int .i64 x.epoch]
/-- Both logs when k acts are done; the document's lies in the box xb. -/
structure LoopJ (w3 : World) (base xb G D n size f h e0 : Nat) (dlt : Int) (k : Nat) (j : JL) (x : XL) (p : PJ) (wr : World) : Prop where
  both : BothJ wr base (fun i => i = xb) j x p dlt
  G : j.G = G
  D : j.y.D = D
  size : j.y.size = size
  len : j.y.lp.length = n
  frm : p.from_ = f
  half : p.half = h
  e : p.e ≤ e0 + k
  blk : Blk wr xb 31 x.cells
  bel : Below base w3 wr
  hx : base ≤ xb
  hw : base ≤ w3.heap.size
section
variable {w3 wr w4 w5 w6 : World} {base xb G D n size f h e0 k : Nat} {dlt : Int} {j : JL} {x : XL} {p : PJ}
theorem LoopJ.below (L : LoopJ w3 base xb G D n size f h e0 dlt k j x p wr) (b : Below wr.heap.size wr w4) : LoopJ w3 base xb G D n size f h e0 dlt k j x p w4 :=
  { L with both := L.both.below b, blk := L.blk.below b L.blk.lt, bel := L.bel.trans (b.mono (Nat.le_trans L.hw L.bel.size)) }
/-- Behind an act. -/
theorem LoopJ.next {a : ActR} {e : Ending} (L : LoopJ w3 base xb G D n size f h e0 dlt k j x p wr) (b : Below wr.heap.size wr w4) (R : RetDo w4 base (fun i => i = xb) j dlt (doP j.y.size p a) e w5) :
    ∃ x', e = .returned (.tuple #[x'.val, .bool true]) ∧ Blk w5 xb 31 x.cells ∧ Below base w3 w5 ∧ w4.heap.size ≤ w5.heap.size ∧ ∃ j', ∀ w6, Kept (fun i => i = xb) w5 w6 → Blk w6 xb 31 x'.cells → LoopJ w3 base xb G D n size f h e0 dlt (k + 1) j' x' (doP j.y.size p a) w6 := by
  have L4 := L.below b
  obtain ⟨j', x', rfl, B, g1, g2, ⟨g3, g3b⟩, K, g5⟩ := R
  have hno := L4.both.no xb rfl
  have hlt := L4.blk.lt
  have b5 : Below base w3 w5 := L4.bel.trans (K.below (fun i _ hi => (L4.both.L.ok.foot_lt hi).1) (Nat.le_trans L4.hw L4.bel.size))
  obtain ⟨d1, d2, d3⟩ := doP_e j.y.size p a
  refine ⟨x', rfl, (K.block xb hlt hno).trans L4.blk, b5, K.size, j', fun w6 K6 hb => ⟨B.store K6, g1.trans L.G, g2.trans L.D, g3.trans L.size, g3b.trans L.len, d2.trans L.frm, d3.trans L.half, by have := L.e; omega, hb, b5.trans (K6.below (fun i _ hi => by have := L.hx; omega) (Nat.le_trans L4.hw b5.size)), L.hx, L.hw⟩⟩
/-- What its disk tells, with the power on, and behind a cut. -/
theorem LoopJ.dam (L : LoopJ w3 base xb G D n size f h e0 dlt k j x p wr) : Dam j.y.abs (f + p.use * h) (f + (1 - p.use) * h) h p.e p.rs p.rs.length := by
  have := L.both.L.inv.dam
  unfold PJ.b PJ.o at this
  rw [L.frm, L.half] at this
  exact this
theorem LoopJ.cut (L : LoopJ w3 base xb G D n size f h e0 dlt k j x p wr) (keep : List Bool) (torn : Int) : Dam (j.y.abs.cut keep torn).on (f + p.use * h) (f + (1 - p.use) * h) h p.e p.rs p.lasts := by
  have := L.both.L.inv.cut keep torn
  unfold PJ.b PJ.o at this
  rw [L.frm, L.half] at this
  exact this
/-- The document's log and its box, behind what changed the disk alone. -/
theorem LoopJ.disk (L : LoopJ w3 base xb G D n size f h e0 dlt k j x p wr) (K : Kept j.y.foot wr w4) : XOK w4 (fun _ => False) x ∧ Blk w4 xb 31 x.cells ∧ Below base w3 w4 := by
  refine ⟨L.both.ok.next (K.mono fun i _ hi => .inl (.inr (.inr hi))) (fun _ _ hf => hf.elim), (K.block xb L.blk.lt fun hf => L.both.no xb rfl (.inr (.inr hf))).trans L.blk, L.bel.trans (K.below (fun i _ hi => (L.both.L.ok.dk.foot_lt hi).1) (Nat.le_trans L.hw L.bel.size))⟩
end
/-- At the start. -/
theorem LoopJ.start {w4 w5 : World} {base f h e0 : Nat} {dlt : Int} {j : JL} {x : XL} {p : PJ} (B : BothJ w4 base (fun _ => False) j x p dlt) (hb : base ≤ w4.heap.size) (b : Below w4.heap.size w4 w5) (hl : w4.heap.size < w5.heap.size) (hB : Blk w5 w4.heap.size 31 x.cells) (h1 : p.from_ = f) (h2 : p.half = h) (h3 : p.e = e0) :
    LoopJ w5 base w4.heap.size j.G j.y.D j.y.lp.length j.y.size f h e0 dlt 0 j x p w5 :=
  ⟨B.more b (fun k hk => .inr ⟨by omega, by omega⟩), rfl, rfl, rfl, rfl, h1, h2, by omega, hB, Below.refl _ _, hb, by omega⟩
/-- A record of what was handed in lies apart from all that the call made. -/
theorem RecOK.apart {w w' : World} {base : Nat} {F G : Nat → Prop} {r : RecR} (h : RecOK w F r) (hs : w.heap.size ≤ base) (b : Below base w w') (hG : ∀ k, G k → base ≤ k) : RecOK w' G r :=
  ((h.mono (G := G) fun k hk hg => by have := hG k hg; omega).kept ⟨b.os, b.tape, b.output, b.size, fun k hk _ => b.block k (by omega)⟩ (fun k hk => hk) : RecOK w' G r)
/-- The records of the document's log, as the program's are. -/
theorem LoopJ.same {w3 wr : World} {base xb G D n size f h e0 k : Nat} {dlt : Int} {j : JL} {x : XL} {p : PJ} (L : LoopJ w3 base xb G D n size f h e0 dlt k j x p wr) : XOK wr (fun _ => False) x ∧ x.rs.map RecR.abs = p.rs := ⟨L.both.ok.mono fun _ _ hf => hf.elim, L.both.says.rs⟩
end Go.Proofs.YtpojlchikaffhaaDoor
