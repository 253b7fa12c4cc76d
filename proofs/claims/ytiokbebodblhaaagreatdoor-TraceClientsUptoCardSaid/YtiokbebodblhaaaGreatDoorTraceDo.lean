/-
  Walk of the document: an event with nothing but what its kind has. Printed by docongen.py.
-/
import Derived.Test.YtiokbebodblhaaaGreatDoorTraceDl
import Derived.Test.YtiokbebodblhaaaGreatDoorTraceOnly
namespace Go.Proofs.YtiokbebodblhaaaGreatDoor
open Go.RowKit TraceP

end Go.Proofs.YtiokbebodblhaaaGreatDoor
