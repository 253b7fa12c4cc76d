/-
  Walk of the document: Word.
-/
import Derived.Test.YtiokbebodblhaaaGreatDoorTDa
import Derived.Deep.RegionLaw
namespace Go.Proofs.YtiokbebodblhaaaGreatDoor
open Go.RowKit TraceP

end Go.Proofs.YtiokbebodblhaaaGreatDoor
