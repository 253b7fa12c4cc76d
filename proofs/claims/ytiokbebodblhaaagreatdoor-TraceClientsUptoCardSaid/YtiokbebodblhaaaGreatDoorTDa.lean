/-
  Walks of the document: Num, yes.
-/
import Derived.Test.YtiokbebodblhaaaGreatDoorTTx
import Derived.Test.YtiokbebodblhaaaGreatDoorTPlain
import Derived.Test.YtiokbebodblhaaaGreatDoorTraceRt
namespace Go.Proofs.YtiokbebodblhaaaGreatDoor
open Go.RowKit TraceP
attribute [local go_sem] bstr_add

end Go.Proofs.YtiokbebodblhaaaGreatDoor
namespace Go.Proofs.YtiokbebodblhaaaGreatDoor
open Go.RowKit TraceP

end Go.Proofs.YtiokbebodblhaaaGreatDoor
