/-
  Walk of the document: all an event's words; whether two events are alike. Printed by docall.py.
-/
import Derived.Test.YtiokbebodblhaaaGreatDoorTraceDq
namespace Go.Proofs.YtiokbebodblhaaaGreatDoor
open Go.RowKit TraceP

/-- What an event's words ask: no text is long, no list. -/
structure ShortE (e : Evt) : Prop where
  object : ShT e.object
  req : ReqP e.req
  met : MetP e.met
  ans : AnsP e.ans
  fet : FetP e.fet
  rep : RepP e.rep
  bytes : ShT e.bytes
  keys : LstP 100001 ShT e.keys
end Go.Proofs.YtiokbebodblhaaaGreatDoor
