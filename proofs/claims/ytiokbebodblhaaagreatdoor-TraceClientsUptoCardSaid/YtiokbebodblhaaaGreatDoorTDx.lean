/-
  Walks of the document: a tag's word, a span's; how long texts are.
-/
import Derived.Test.YtiokbebodblhaaaGreatDoorTraceDw
import Derived.Test.YtiokbebodblhaaaGreatDoorTPlain
namespace Go.Proofs.YtiokbebodblhaaaGreatDoor
open Go.RowKit TraceP

end Go.Proofs.YtiokbebodblhaaaGreatDoor
namespace Go.Proofs.YtiokbebodblhaaaGreatDoor
open Go.RowKit TraceP

end Go.Proofs.YtiokbebodblhaaaGreatDoor
namespace Go.Proofs.YtiokbebodblhaaaGreatDoor
open Go.RowKit TraceP

end Go.Proofs.YtiokbebodblhaaaGreatDoor
namespace Go.Proofs.YtiokbebodblhaaaGreatDoor
open Go.RowKit TraceP

end Go.Proofs.YtiokbebodblhaaaGreatDoor
namespace Go.Proofs.YtiokbebodblhaaaGreatDoor
open Go.RowKit TraceP

end Go.Proofs.YtiokbebodblhaaaGreatDoor
namespace Go.Proofs.YtiokbebodblhaaaGreatDoor
open Go.RowKit TraceP

end Go.Proofs.YtiokbebodblhaaaGreatDoor
