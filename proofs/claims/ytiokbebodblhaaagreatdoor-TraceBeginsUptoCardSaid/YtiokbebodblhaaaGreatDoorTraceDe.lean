/-
  Walk of the document: are two traces the same.
-/
import Derived.Test.YtiokbebodblhaaaGreatDoorTraceDf
import Derived.Test.YtiokbebodblhaaaGreatDoorTSm
namespace Go.Proofs.YtiokbebodblhaaaGreatDoor
open Go.RowKit TraceP

end Go.Proofs.YtiokbebodblhaaaGreatDoor
