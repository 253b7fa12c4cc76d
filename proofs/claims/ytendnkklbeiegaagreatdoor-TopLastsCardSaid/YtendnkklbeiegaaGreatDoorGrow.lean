/-
  A region that draws its order, whose operations read and whose callees give plain values back and turn nothing that was there (they may make memory): one walk in the order of the text serves every order.
-/
import Derived.Test.YtendnkklbeiegaaGreatDoorMAI
import Derived.Deep.QuietTactic
import Derived.BigQuiet
namespace Go.Proofs.YtendnkklbeiegaaGreatDoor
open Go.RowKit

open Classical in
/-- A later world: r, if nothing that lay in w has turned in it; else w itself. -/
noncomputable def grow (w r : World) : World := if Below w.heap.size w r then r else w
theorem grow_below (w r : World) : Below w.heap.size w (grow w r) := by
  unfold grow
  split
  · assumption
  · exact Below.refl _ _
theorem grow_of {w r : World} (h : Below w.heap.size w r) : grow w r = r := if_pos h
theorem wp_region_grow {P : Program} {id : Nat} {Q : Exit → Act → World → Prop} {a : Act} {w : World} {l : List Oper} (hm : P.follows .mixedOrders = true) (hB : Region.lexB .any l.toArray = true)
    (h : wpQuiet P l.toArray (fun w' => ∃ r, w' = grow w r) (fun a' => ∀ w', (∃ r, w' = grow w r) → Q .normal a' w') l a) : (Code.region id l.toArray true).wp P Q a w :=
  wp_region_quiet (C := fun w' => ∃ r, w' = grow w r) hm hB ⟨w.drew, (grow_of ((Below.refl _ _).drew)).symm⟩ (by simpa using h)
theorem calls_grow {P : Program} {f : FuncId} {args : Array Value} {w r : World} {v : Value}
    (h : Calls P f args (grow w r) fun e w' => e = .returned v ∧ Below (grow w r).heap.size (grow w r) w') : Calls P f args (grow w r) fun e w' => e = .returned v ∧ ∃ r', w' = grow w r' :=
  h.mono fun _ w' ⟨he, hb⟩ => ⟨he, w', (grow_of ((grow_below w r).trans (hb.mono (grow_below w r).size))).symm⟩
theorem calls_grow_same {P : Program} {f : FuncId} {args : Array Value} {w r : World} {v : Value}
    (h : Calls P f args (grow w r) fun e w' => e = .returned v ∧ grow w r = w') : Calls P f args (grow w r) fun e w' => e = .returned v ∧ ∃ r', w' = grow w r' :=
  h.mono fun _ _ ⟨he, hb⟩ => ⟨he, r, hb.symm⟩
end Go.Proofs.YtendnkklbeiegaaGreatDoor
