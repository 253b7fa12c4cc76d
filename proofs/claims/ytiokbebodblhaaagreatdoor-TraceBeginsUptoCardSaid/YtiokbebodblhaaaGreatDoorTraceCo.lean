/-
  Walks: the document's Could: can an event have happened so, behind others. Printed by couldgen.py.
-/
import Derived.Test.YtiokbebodblhaaaGreatDoorTraceLb
import Derived.Test.YtiokbebodblhaaaGreatDoorTraceDe
import Derived.Test.YtiokbebodblhaaaGreatDoorTMap
import Derived.Deep.CutRange
namespace Go.Proofs.YtiokbebodblhaaaGreatDoor
open Go.RowKit TraceP
attribute [local go_sem] Row.val

section
variable {e : Evt} {v w f : Nat} {g : Int}
end
end Go.Proofs.YtiokbebodblhaaaGreatDoor
