/-
  The walk of the statements' do, where a record is added.
-/
import Derived.Test.YtpojlchikaffhaaDoorJourHelpB
import Derived.Test.YtpojlchikaffhaaDoorJourAddC
namespace Go.Proofs.YtpojlchikaffhaaDoor
open Go.RowKit DiskP SumP PageP JourP

/-- An act, as its four cells say it. -/
structure ActR where
  kind : UInt8
  r : RecR
  frm : UInt8
def ActR.cells (a : ActR) : List Value := [.int .u8 (a.kind.toNat : Int), .int .u8 (a.r.kind.toNat : Int), .slice a.r.A a.r.body.length a.r.cap, .int .u8 (a.frm.toNat : Int)]
/-- What an act makes of a log. -/
def doP (size : Nat) (p : PJ) (a : ActR) : PJ :=
  if a.kind.toNat % 3 = 0 then p.addS size a.r.abs else if a.kind.toNat % 3 = 1 then p.sync else p.turnS size (p.rs.drop (a.frm.toNat % (p.rs.length + 1)))
def RetDo (w : World) (base : Nat) (X : Nat → Prop) (j : JL) (dlt : Int) (p' : PJ) (e : Ending) (w' : World) : Prop :=
  ∃ j' x', e = .returned (.tuple #[x'.val, .bool true]) ∧ BothJ w' base X j' x' p' dlt ∧ j'.G = j.G ∧ j'.y.D = j.y.D ∧ (j'.y.size = j.y.size ∧ j'.y.lp.length = j.y.lp.length) ∧ Kept j.foot w w' ∧ ∀ k, j'.foot k → j.foot k ∨ w.heap.size ≤ k
theorem rem3 (k : UInt8) (m : Nat) (h : k.toNat % 3 = m) : ((k.toNat : Int).tmod 3 = (m : Int)) ∧ ((k.toNat : Int) % 3 = (m : Int)) := by
  have e : (k.toNat : Int) % 3 = (m : Int) := by omega
  exact ⟨by rw [Int.tmod_eq_emod_of_nonneg (by omega)]; exact e, e⟩
/-- Behind both: w1 is where the program's log is called, w3 behind the stores into the blocks R that the act made. -/
theorem do_end {w w1 w2 w3 : World} {base : Nat} {X R : Nat → Prop} {j : JL} {x x' : XL} {p p' : PJ} {dlt : Int} (h : BothJ w base X j x p dlt) (b1 : Below w.heap.size w w1) (hR : ∀ k, R k → w.heap.size ≤ k ∧ k < w1.heap.size) (hx : XSays x' j.y.size p' dlt) (ho : XOK w1 (fun k => j.foot k ∨ (X k ∨ R k)) x') (n : NextJ w1 base j p' w2) (K : Kept R w2 w3) :
    RetDo w base X j dlt p' (.returned (.tuple #[x'.val, .bool true])) w3 := by
  have h1 := h.more (Y := fun k => X k ∨ R k) b1 (fun k hk => hk.imp id (hR k))
  obtain ⟨j', g1, g2, g3, g4, g5, g6⟩ := h1.step hx ho n
  have hs := b1.size
  refine ⟨j', x', rfl, ((g1.store (K.mono fun k _ hk => .inr hk)).less fun k hk => .inl hk), g2, g3, g4, ?_, fun k hk => (g6 k hk).imp id fun h => Nat.le_trans hs h⟩
  refine ⟨(K.os.trans g5.os).trans b1.os, (K.tape.trans g5.tape).trans b1.tape, (K.output.trans g5.output).trans b1.output, Nat.le_trans hs (Nat.le_trans g5.size K.size), fun k hk hf => ?_⟩
  have q1 := b1.block k hk
  have q2 := g5.block k (by omega) hf
  have q3 := K.block k (by have := g5.size; omega) (fun hg => by have := (hR k hg).1; omega)
  exact (q3.trans q2).trans q1
end Go.Proofs.YtpojlchikaffhaaDoor
