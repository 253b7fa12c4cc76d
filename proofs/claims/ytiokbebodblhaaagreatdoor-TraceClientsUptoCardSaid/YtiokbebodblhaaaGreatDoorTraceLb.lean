/-
  Walks: what the document looks back at: an object's version, who waits, what flies, a node's greatest flight. Printed by refgen51.py.
-/
import Derived.Test.YtiokbebodblhaaaGreatDoorTSm
import Derived.Deep.Cut
namespace Go.Proofs.YtiokbebodblhaaaGreatDoor
open Go.RowKit TraceP
attribute [local go_sem] Row.val

end Go.Proofs.YtiokbebodblhaaaGreatDoor
