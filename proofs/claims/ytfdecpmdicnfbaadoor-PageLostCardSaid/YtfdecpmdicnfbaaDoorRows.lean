/-
  NARROWER THAN 'FOR EVERY INPUT', by the rows' own cells (each row's printed sentence says how): PageRoom: laid · PageGets: laid · PagePuts: laid · PageBack: laid · PageRots: laid · PageLost: laid.
  DERIVED. THE GIVEN ROWS OF THIS SEAT. 6 by the template 'for every input the law returns true; each argument reads behind the call as it read before'; 0 by the template 'total and deterministic' (their statements: YtfdecpmdicnfbaaDoorTotals.lean).
  GIVEN WITH THE SEED: the statements are not yours to turn. If you find one false, say at which input.
  Laid BY PROGRAM, IN A SANDBOX (cutbox-rows.mjs): the forced cells as the released guide's own fill.sh prints them over the translation be3591ab8d67f61f… (all of the seat's roots in one cut). By AI agents, Wed Nov 11 2026. No macro, syntax, notation, axiom, sorry.
-/
import Derived.Test.YtfdecpmdicnfbaaDoorChecked
import GoSem.Claim
import GoSem.ClaimJoined
import GoSem.ClaimMapViews
import Derived.JoinedTies
import Derived.KernelRfl
namespace Go.Proofs.YtfdecpmdicnfbaaDoor
/- THE CELL 'sum', in the pinned program and in every row, IS THE sha256 OF THE DUMP (.gsa) THAT YtfdecpmdicnfbaaDoorProg.lean LOADS. Nothing in Lean hashes anything: it is a label: what it is worth is what the hold of that sum in a sandbox is worth. -/
noncomputable def Tryd.pinned : Pinned := { name := "ytfdecpmdicnfbaadoor", sum := "be3591ab8d67f61f491e9674ed20e8d9f906f9ad97829db2f43e1c5dc73de557", checked := Tryd.checked }
namespace Rows
def none {H : Type} : Left H := { results := [], args := [] }

/- WHAT THE LISTED PACKAGE-LEVEL VARIABLES READ AS WHEN THE CALL BEGINS. Each datum BY PROGRAM (the guide's laid-datum.mjs) off the statement by which the dump's own 'gosem.cut.vars' lays the variable. In a bare row this is a premise. The card (YtfdecpmdicnfbaaDoorCards.lean) ties it to the program's text. -/
def laid_mandoline_sum_steps {H : Type} : DataW H := .agg [.lit (.int .u32 0), .lit (.int .u32 498536548), .lit (.int .u32 997073096), .lit (.int .u32 651767980), .lit (.int .u32 1994146192), .lit (.int .u32 1802195444), .lit (.int .u32 1303535960), .lit (.int .u32 1342533948), .lit (.int .u32 3988292384), .lit (.int .u32 4027552580), .lit (.int .u32 3604390888), .lit (.int .u32 3412177804), .lit (.int .u32 2607071920), .lit (.int .u32 2262029012), .lit (.int .u32 2685067896), .lit (.int .u32 3183342108)]

/-- 'mandolinelaw20.PageRoom': WHATEVER THE INPUT: true; the input reads as it did. -/
def pageRoomSpec : ChangeSpec := { name := "pageRoom", fn := fun _ => fun
  | [d1, d2, d3] => { results := [.lit (.bool true)], args := [d1, d2, d3] }
  | _ => none }
def pageRoomRow : OpenClaim := { program := "ytfdecpmdicnfbaadoor", sum := "be3591ab8d67f61f491e9674ed20e8d9f906f9ad97829db2f43e1c5dc73de557", func := "mandoline/mandolinelaw20.PageRoom", spec := "pageRoom", named := ["mandoline/sum.steps"], apart := false, laid := [("mandoline/sum.steps", laid_mandoline_sum_steps)] }
def PageRoomSaid : Prop := pageRoomRow.holds Tryd.pinned (OpenSpec.ofChange pageRoomSpec)

/-- ITS FALSE NEIGHBOUR: 'it returns false'. Refute it at one input. -/
def pageRoomWrong : ChangeSpec := { name := "pageRoom", fn := fun _ => fun
  | [d1, d2, d3] => { results := [.lit (.bool false)], args := [d1, d2, d3] }
  | _ => none }
def PageRoomWrongFalsely : Prop := pageRoomRow.holds Tryd.pinned (OpenSpec.ofChange pageRoomWrong)

/-- 'mandolinelaw20.PageGets': WHATEVER THE INPUT: true; the input reads as it did. -/
def pageGetsSpec : ChangeSpec := { name := "pageGets", fn := fun _ => fun
  | [d1, d2] => { results := [.lit (.bool true)], args := [d1, d2] }
  | _ => none }
def pageGetsRow : OpenClaim := { program := "ytfdecpmdicnfbaadoor", sum := "be3591ab8d67f61f491e9674ed20e8d9f906f9ad97829db2f43e1c5dc73de557", func := "mandoline/mandolinelaw20.PageGets", spec := "pageGets", named := ["mandoline/sum.steps"], apart := false, laid := [("mandoline/sum.steps", laid_mandoline_sum_steps)] }
def PageGetsSaid : Prop := pageGetsRow.holds Tryd.pinned (OpenSpec.ofChange pageGetsSpec)

/-- ITS FALSE NEIGHBOUR: 'it returns false'. Refute it at one input. -/
def pageGetsWrong : ChangeSpec := { name := "pageGets", fn := fun _ => fun
  | [d1, d2] => { results := [.lit (.bool false)], args := [d1, d2] }
  | _ => none }
def PageGetsWrongFalsely : Prop := pageGetsRow.holds Tryd.pinned (OpenSpec.ofChange pageGetsWrong)

/-- 'mandolinelaw20.PagePuts': WHATEVER THE INPUT: true; the input reads as it did. -/
def pagePutsSpec : ChangeSpec := { name := "pagePuts", fn := fun _ => fun
  | [d1, d2] => { results := [.lit (.bool true)], args := [d1, d2] }
  | _ => none }
def pagePutsRow : OpenClaim := { program := "ytfdecpmdicnfbaadoor", sum := "be3591ab8d67f61f491e9674ed20e8d9f906f9ad97829db2f43e1c5dc73de557", func := "mandoline/mandolinelaw20.PagePuts", spec := "pagePuts", named := ["mandoline/sum.steps"], apart := false, laid := [("mandoline/sum.steps", laid_mandoline_sum_steps)] }
def PagePutsSaid : Prop := pagePutsRow.holds Tryd.pinned (OpenSpec.ofChange pagePutsSpec)

/-- ITS FALSE NEIGHBOUR: 'it returns false'. Refute it at one input. -/
def pagePutsWrong : ChangeSpec := { name := "pagePuts", fn := fun _ => fun
  | [d1, d2] => { results := [.lit (.bool false)], args := [d1, d2] }
  | _ => none }
def PagePutsWrongFalsely : Prop := pagePutsRow.holds Tryd.pinned (OpenSpec.ofChange pagePutsWrong)

/-- 'mandolinelaw20.PageBack': WHATEVER THE INPUT: true; the input reads as it did. -/
def pageBackSpec : ChangeSpec := { name := "pageBack", fn := fun _ => fun
  | [d1, d2] => { results := [.lit (.bool true)], args := [d1, d2] }
  | _ => none }
def pageBackRow : OpenClaim := { program := "ytfdecpmdicnfbaadoor", sum := "be3591ab8d67f61f491e9674ed20e8d9f906f9ad97829db2f43e1c5dc73de557", func := "mandoline/mandolinelaw20.PageBack", spec := "pageBack", named := ["mandoline/sum.steps"], apart := false, laid := [("mandoline/sum.steps", laid_mandoline_sum_steps)] }
def PageBackSaid : Prop := pageBackRow.holds Tryd.pinned (OpenSpec.ofChange pageBackSpec)

/-- ITS FALSE NEIGHBOUR: 'it returns false'. Refute it at one input. -/
def pageBackWrong : ChangeSpec := { name := "pageBack", fn := fun _ => fun
  | [d1, d2] => { results := [.lit (.bool false)], args := [d1, d2] }
  | _ => none }
def PageBackWrongFalsely : Prop := pageBackRow.holds Tryd.pinned (OpenSpec.ofChange pageBackWrong)

/-- 'mandolinelaw20.PageRots': WHATEVER THE INPUT: true; the input reads as it did. -/
def pageRotsSpec : ChangeSpec := { name := "pageRots", fn := fun _ => fun
  | [d1, d2, d3] => { results := [.lit (.bool true)], args := [d1, d2, d3] }
  | _ => none }
def pageRotsRow : OpenClaim := { program := "ytfdecpmdicnfbaadoor", sum := "be3591ab8d67f61f491e9674ed20e8d9f906f9ad97829db2f43e1c5dc73de557", func := "mandoline/mandolinelaw20.PageRots", spec := "pageRots", named := ["mandoline/sum.steps"], apart := false, laid := [("mandoline/sum.steps", laid_mandoline_sum_steps)] }
def PageRotsSaid : Prop := pageRotsRow.holds Tryd.pinned (OpenSpec.ofChange pageRotsSpec)

/-- ITS FALSE NEIGHBOUR: 'it returns false'. Refute it at one input. -/
def pageRotsWrong : ChangeSpec := { name := "pageRots", fn := fun _ => fun
  | [d1, d2, d3] => { results := [.lit (.bool false)], args := [d1, d2, d3] }
  | _ => none }
def PageRotsWrongFalsely : Prop := pageRotsRow.holds Tryd.pinned (OpenSpec.ofChange pageRotsWrong)

/-- 'mandolinelaw20.PageLost': WHATEVER THE INPUT: true; the input reads as it did. -/
def pageLostSpec : ChangeSpec := { name := "pageLost", fn := fun _ => fun
  | [d1, d2, d3] => { results := [.lit (.bool true)], args := [d1, d2, d3] }
  | _ => none }
def pageLostRow : OpenClaim := { program := "ytfdecpmdicnfbaadoor", sum := "be3591ab8d67f61f491e9674ed20e8d9f906f9ad97829db2f43e1c5dc73de557", func := "mandoline/mandolinelaw20.PageLost", spec := "pageLost", named := ["mandoline/sum.steps"], apart := false, laid := [("mandoline/sum.steps", laid_mandoline_sum_steps)] }
def PageLostSaid : Prop := pageLostRow.holds Tryd.pinned (OpenSpec.ofChange pageLostSpec)

/-- ITS FALSE NEIGHBOUR: 'it returns false'. Refute it at one input. -/
def pageLostWrong : ChangeSpec := { name := "pageLost", fn := fun _ => fun
  | [d1, d2, d3] => { results := [.lit (.bool false)], args := [d1, d2, d3] }
  | _ => none }
def PageLostWrongFalsely : Prop := pageLostRow.holds Tryd.pinned (OpenSpec.ofChange pageLostWrong)

/- THE SECOND FORM. 'bulk': how many values and letters a reading holds, each counted each time it is reached (what is shared counts as often as it is met; a slice's spare places count too). A statement '..UptoSaid' is the law's where the arguments, and the package variables that the reading takes, are together of bulk at most 1048576: NARROWER than '..Said'. Prove '..Said' where nothing that the law and all that it calls make is longer than what came in: it says more and counts as full. Else prove '..UptoSaid'. A law counts once. -/
mutual
def uptoBulk {H : Type} : DataW H → Nat
  | .lit (.string bytes) => bytes.length + 1
  | .lit _ => 1
  | .nil => 1
  | .ptr d => uptoBulk d + 1
  | .slice elems spare => uptoBulkAll elems + uptoBulkAll spare + 1
  | .agg parts => uptoBulkAll parts + 1
  | .iface _ d => uptoBulk d + 1
  | .map entries => uptoBulkEntries entries + 1
  | .held _ => 1
def uptoBulkAll {H : Type} : List (DataW H) → Nat
  | [] => 0
  | d :: r => uptoBulk d + uptoBulkAll r
def uptoBulkEntries {H : Type} : List (Lit × DataW H) → Nat
  | [] => 0
  | x :: r => uptoBulkEntry x + uptoBulkEntries r
def uptoBulkEntry {H : Type} : Lit × DataW H → Nat
  | (.string bytes, d) => bytes.length + uptoBulk d + 1
  | (_, d) => uptoBulk d + 1
 end
def uptoSmall : (H : Type) → List (DataW H) → Bool := fun _ ds => decide (uptoBulkAll ds ≤ 1048576)
def OpenSpec.upto (s : _root_.Go.ChangeSpec) : _root_.Go.OpenSpec := { _root_.Go.OpenSpec.ofChange s with cond := some uptoSmall }

/-- 'mandolinelaw20.PageRoom', WHERE WHAT IT READS IS OF BULK AT MOST 1048576: true; the input reads as it did. -/
def pageRoomUptoRow : OpenClaim := { program := "ytfdecpmdicnfbaadoor", sum := "be3591ab8d67f61f491e9674ed20e8d9f906f9ad97829db2f43e1c5dc73de557", func := "mandoline/mandolinelaw20.PageRoom", spec := "pageRoom", named := ["mandoline/sum.steps"], apart := false, laid := [("mandoline/sum.steps", laid_mandoline_sum_steps)], narrowed := true }
def PageRoomUptoSaid : Prop := pageRoomUptoRow.holds Tryd.pinned (OpenSpec.upto pageRoomSpec)

/-- 'mandolinelaw20.PageGets', WHERE WHAT IT READS IS OF BULK AT MOST 1048576: true; the input reads as it did. -/
def pageGetsUptoRow : OpenClaim := { program := "ytfdecpmdicnfbaadoor", sum := "be3591ab8d67f61f491e9674ed20e8d9f906f9ad97829db2f43e1c5dc73de557", func := "mandoline/mandolinelaw20.PageGets", spec := "pageGets", named := ["mandoline/sum.steps"], apart := false, laid := [("mandoline/sum.steps", laid_mandoline_sum_steps)], narrowed := true }
def PageGetsUptoSaid : Prop := pageGetsUptoRow.holds Tryd.pinned (OpenSpec.upto pageGetsSpec)

/-- 'mandolinelaw20.PagePuts', WHERE WHAT IT READS IS OF BULK AT MOST 1048576: true; the input reads as it did. -/
def pagePutsUptoRow : OpenClaim := { program := "ytfdecpmdicnfbaadoor", sum := "be3591ab8d67f61f491e9674ed20e8d9f906f9ad97829db2f43e1c5dc73de557", func := "mandoline/mandolinelaw20.PagePuts", spec := "pagePuts", named := ["mandoline/sum.steps"], apart := false, laid := [("mandoline/sum.steps", laid_mandoline_sum_steps)], narrowed := true }
def PagePutsUptoSaid : Prop := pagePutsUptoRow.holds Tryd.pinned (OpenSpec.upto pagePutsSpec)

/-- 'mandolinelaw20.PageBack', WHERE WHAT IT READS IS OF BULK AT MOST 1048576: true; the input reads as it did. -/
def pageBackUptoRow : OpenClaim := { program := "ytfdecpmdicnfbaadoor", sum := "be3591ab8d67f61f491e9674ed20e8d9f906f9ad97829db2f43e1c5dc73de557", func := "mandoline/mandolinelaw20.PageBack", spec := "pageBack", named := ["mandoline/sum.steps"], apart := false, laid := [("mandoline/sum.steps", laid_mandoline_sum_steps)], narrowed := true }
def PageBackUptoSaid : Prop := pageBackUptoRow.holds Tryd.pinned (OpenSpec.upto pageBackSpec)

/-- 'mandolinelaw20.PageRots', WHERE WHAT IT READS IS OF BULK AT MOST 1048576: true; the input reads as it did. -/
def pageRotsUptoRow : OpenClaim := { program := "ytfdecpmdicnfbaadoor", sum := "be3591ab8d67f61f491e9674ed20e8d9f906f9ad97829db2f43e1c5dc73de557", func := "mandoline/mandolinelaw20.PageRots", spec := "pageRots", named := ["mandoline/sum.steps"], apart := false, laid := [("mandoline/sum.steps", laid_mandoline_sum_steps)], narrowed := true }
def PageRotsUptoSaid : Prop := pageRotsUptoRow.holds Tryd.pinned (OpenSpec.upto pageRotsSpec)

/-- 'mandolinelaw20.PageLost', WHERE WHAT IT READS IS OF BULK AT MOST 1048576: true; the input reads as it did. -/
def pageLostUptoRow : OpenClaim := { program := "ytfdecpmdicnfbaadoor", sum := "be3591ab8d67f61f491e9674ed20e8d9f906f9ad97829db2f43e1c5dc73de557", func := "mandoline/mandolinelaw20.PageLost", spec := "pageLost", named := ["mandoline/sum.steps"], apart := false, laid := [("mandoline/sum.steps", laid_mandoline_sum_steps)], narrowed := true }
def PageLostUptoSaid : Prop := pageLostUptoRow.holds Tryd.pinned (OpenSpec.upto pageLostSpec)

end Rows
end Go.Proofs.YtfdecpmdicnfbaaDoor
