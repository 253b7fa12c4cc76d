/-
  Walks of the document: are two events alike; does one fit. Printed by docfit.py.
-/
import Derived.Test.YtiokbebodblhaaaGreatDoorTraceDo
namespace Go.Proofs.YtiokbebodblhaaaGreatDoor
open Go.RowKit TraceP

theorem ShortE.only {e : Evt} (h : ShortE e) : ShortE (onlyE e) := by
  have z := zEvt_p (k := 0) (t := 0) (n := 0) (w := 0) ⟨by decide, by decide⟩ i64_zero i64_zero i64_zero
  refine ⟨?_, ?_, ?_, ?_, ?_, ?_, ?_, ?_⟩
  · unfold onlyE; dsimp only; split; exact h.object; exact z.object
  · unfold onlyE; dsimp only; split; exact h.req; exact z.req
  · unfold onlyE; dsimp only; split; exact h.met; exact z.met
  · unfold onlyE; dsimp only; split; exact h.ans; exact z.ans
  · unfold onlyE; dsimp only; split; exact h.fet; exact z.fet
  · unfold onlyE; dsimp only; split; exact h.rep; exact z.rep
  · unfold onlyE; dsimp only; split; exact h.bytes; exact z.bytes
  · unfold onlyE; dsimp only; split; exact h.keys; exact z.keys
end Go.Proofs.YtiokbebodblhaaaGreatDoor
