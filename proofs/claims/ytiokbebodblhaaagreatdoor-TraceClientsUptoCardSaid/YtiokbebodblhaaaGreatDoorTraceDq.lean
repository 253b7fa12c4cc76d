/-
  Walk of the document: a request's words. Printed by docreq.py.
-/
import Derived.Test.YtiokbebodblhaaaGreatDoorTDx
namespace Go.Proofs.YtiokbebodblhaaaGreatDoor
open Go.RowKit TraceP

end Go.Proofs.YtiokbebodblhaaaGreatDoor
