/-
  NARROWER THAN 'FOR EVERY INPUT', by the rows' own cells (each row's printed sentence says how): SumOf: laid · SumParts: laid · SumJoins: laid · SumFar: laid · SumFixes: laid · SumBursts: laid · SumMarks: laid.
  DERIVED. THE GIVEN ROWS OF THIS SEAT. 7 by the template 'for every input the law returns true; each argument reads behind the call as it read before'; 0 by the template 'total and deterministic' (their statements: YtoglecgkodmppaaDoorTotals.lean).
  GIVEN WITH THE SEED: the statements are not yours to turn. If you find one false, say at which input.
  Laid BY PROGRAM, IN A SANDBOX (cutbox-rows.mjs): the forced cells as the released guide's own fill.sh prints them over the translation d7cf02e8db17423f… (all of the seat's roots in one cut). By AI agents, Wed Nov 11 2026. No macro, syntax, notation, axiom, sorry.
-/
import Derived.Test.YtoglecgkodmppaaDoorChecked
import GoSem.Claim
import GoSem.ClaimJoined
import GoSem.ClaimMapViews
import Derived.JoinedTies
import Derived.KernelRfl
namespace Go.Proofs.YtoglecgkodmppaaDoor
/- THE CELL 'sum', in the pinned program and in every row, IS THE sha256 OF THE DUMP (.gsa) THAT YtoglecgkodmppaaDoorProg.lean LOADS. Nothing in Lean hashes anything: it is a label: what it is worth is what the hold of that sum in a sandbox is worth. -/
noncomputable def Tryd.pinned : Pinned := { name := "ytoglecgkodmppaadoor", sum := "d7cf02e8db17423fe4b77dbfb35015af52f9f4bd9e4e9277a7a30223b49f09ac", checked := Tryd.checked }
namespace Rows
def none {H : Type} : Left H := { results := [], args := [] }

/- WHAT THE LISTED PACKAGE-LEVEL VARIABLES READ AS WHEN THE CALL BEGINS. Each datum BY PROGRAM (the guide's laid-datum.mjs) off the statement by which the dump's own 'gosem.cut.vars' lays the variable. In a bare row this is a premise. The card (YtoglecgkodmppaaDoorCards.lean) ties it to the program's text. -/
def laid_mandoline_sum_steps {H : Type} : DataW H := .agg [.lit (.int .u32 0), .lit (.int .u32 498536548), .lit (.int .u32 997073096), .lit (.int .u32 651767980), .lit (.int .u32 1994146192), .lit (.int .u32 1802195444), .lit (.int .u32 1303535960), .lit (.int .u32 1342533948), .lit (.int .u32 3988292384), .lit (.int .u32 4027552580), .lit (.int .u32 3604390888), .lit (.int .u32 3412177804), .lit (.int .u32 2607071920), .lit (.int .u32 2262029012), .lit (.int .u32 2685067896), .lit (.int .u32 3183342108)]

/-- 'mandolinelaw18.SumOf': WHATEVER THE INPUT: true; the input reads as it did. -/
def sumOfSpec : ChangeSpec := { name := "sumOf", fn := fun _ => fun
  | [d1, d2] => { results := [.lit (.bool true)], args := [d1, d2] }
  | _ => none }
def sumOfRow : OpenClaim := { program := "ytoglecgkodmppaadoor", sum := "d7cf02e8db17423fe4b77dbfb35015af52f9f4bd9e4e9277a7a30223b49f09ac", func := "mandoline/mandolinelaw18.SumOf", spec := "sumOf", named := ["mandoline/sum.steps"], apart := false, laid := [("mandoline/sum.steps", laid_mandoline_sum_steps)] }
def SumOfSaid : Prop := sumOfRow.holds Tryd.pinned (OpenSpec.ofChange sumOfSpec)

/-- ITS FALSE NEIGHBOUR: 'it returns false'. Refute it at one input. -/
def sumOfWrong : ChangeSpec := { name := "sumOf", fn := fun _ => fun
  | [d1, d2] => { results := [.lit (.bool false)], args := [d1, d2] }
  | _ => none }
def SumOfWrongFalsely : Prop := sumOfRow.holds Tryd.pinned (OpenSpec.ofChange sumOfWrong)

/-- 'mandolinelaw18.SumParts': WHATEVER THE INPUT: true; the input reads as it did. -/
def sumPartsSpec : ChangeSpec := { name := "sumParts", fn := fun _ => fun
  | [d1, d2] => { results := [.lit (.bool true)], args := [d1, d2] }
  | _ => none }
def sumPartsRow : OpenClaim := { program := "ytoglecgkodmppaadoor", sum := "d7cf02e8db17423fe4b77dbfb35015af52f9f4bd9e4e9277a7a30223b49f09ac", func := "mandoline/mandolinelaw18.SumParts", spec := "sumParts", named := ["mandoline/sum.steps"], apart := false, laid := [("mandoline/sum.steps", laid_mandoline_sum_steps)] }
def SumPartsSaid : Prop := sumPartsRow.holds Tryd.pinned (OpenSpec.ofChange sumPartsSpec)

/-- ITS FALSE NEIGHBOUR: 'it returns false'. Refute it at one input. -/
def sumPartsWrong : ChangeSpec := { name := "sumParts", fn := fun _ => fun
  | [d1, d2] => { results := [.lit (.bool false)], args := [d1, d2] }
  | _ => none }
def SumPartsWrongFalsely : Prop := sumPartsRow.holds Tryd.pinned (OpenSpec.ofChange sumPartsWrong)

/-- 'mandolinelaw18.SumJoins': WHATEVER THE INPUT: true; the input reads as it did. -/
def sumJoinsSpec : ChangeSpec := { name := "sumJoins", fn := fun _ => fun
  | [d1, d2, d3] => { results := [.lit (.bool true)], args := [d1, d2, d3] }
  | _ => none }
def sumJoinsRow : OpenClaim := { program := "ytoglecgkodmppaadoor", sum := "d7cf02e8db17423fe4b77dbfb35015af52f9f4bd9e4e9277a7a30223b49f09ac", func := "mandoline/mandolinelaw18.SumJoins", spec := "sumJoins", named := ["mandoline/sum.steps"], apart := false, laid := [("mandoline/sum.steps", laid_mandoline_sum_steps)] }
def SumJoinsSaid : Prop := sumJoinsRow.holds Tryd.pinned (OpenSpec.ofChange sumJoinsSpec)

/-- ITS FALSE NEIGHBOUR: 'it returns false'. Refute it at one input. -/
def sumJoinsWrong : ChangeSpec := { name := "sumJoins", fn := fun _ => fun
  | [d1, d2, d3] => { results := [.lit (.bool false)], args := [d1, d2, d3] }
  | _ => none }
def SumJoinsWrongFalsely : Prop := sumJoinsRow.holds Tryd.pinned (OpenSpec.ofChange sumJoinsWrong)

/-- 'mandolinelaw18.SumFar': WHATEVER THE INPUT: true; the input reads as it did. -/
def sumFarSpec : ChangeSpec := { name := "sumFar", fn := fun _ => fun
  | [d1, d2, d3] => { results := [.lit (.bool true)], args := [d1, d2, d3] }
  | _ => none }
def sumFarRow : OpenClaim := { program := "ytoglecgkodmppaadoor", sum := "d7cf02e8db17423fe4b77dbfb35015af52f9f4bd9e4e9277a7a30223b49f09ac", func := "mandoline/mandolinelaw18.SumFar", spec := "sumFar", named := ["mandoline/sum.steps"], apart := false, laid := [("mandoline/sum.steps", laid_mandoline_sum_steps)] }
def SumFarSaid : Prop := sumFarRow.holds Tryd.pinned (OpenSpec.ofChange sumFarSpec)

/-- ITS FALSE NEIGHBOUR: 'it returns false'. Refute it at one input. -/
def sumFarWrong : ChangeSpec := { name := "sumFar", fn := fun _ => fun
  | [d1, d2, d3] => { results := [.lit (.bool false)], args := [d1, d2, d3] }
  | _ => none }
def SumFarWrongFalsely : Prop := sumFarRow.holds Tryd.pinned (OpenSpec.ofChange sumFarWrong)

/-- 'mandolinelaw18.SumFixes': WHATEVER THE INPUT: true; the input reads as it did. -/
def sumFixesSpec : ChangeSpec := { name := "sumFixes", fn := fun _ => fun
  | [d1, d2] => { results := [.lit (.bool true)], args := [d1, d2] }
  | _ => none }
def sumFixesRow : OpenClaim := { program := "ytoglecgkodmppaadoor", sum := "d7cf02e8db17423fe4b77dbfb35015af52f9f4bd9e4e9277a7a30223b49f09ac", func := "mandoline/mandolinelaw18.SumFixes", spec := "sumFixes", named := ["mandoline/sum.steps"], apart := false, laid := [("mandoline/sum.steps", laid_mandoline_sum_steps)] }
def SumFixesSaid : Prop := sumFixesRow.holds Tryd.pinned (OpenSpec.ofChange sumFixesSpec)

/-- ITS FALSE NEIGHBOUR: 'it returns false'. Refute it at one input. -/
def sumFixesWrong : ChangeSpec := { name := "sumFixes", fn := fun _ => fun
  | [d1, d2] => { results := [.lit (.bool false)], args := [d1, d2] }
  | _ => none }
def SumFixesWrongFalsely : Prop := sumFixesRow.holds Tryd.pinned (OpenSpec.ofChange sumFixesWrong)

/-- 'mandolinelaw18.SumBursts': WHATEVER THE INPUT: true; the input reads as it did. -/
def sumBurstsSpec : ChangeSpec := { name := "sumBursts", fn := fun _ => fun
  | [d1, d2, d3] => { results := [.lit (.bool true)], args := [d1, d2, d3] }
  | _ => none }
def sumBurstsRow : OpenClaim := { program := "ytoglecgkodmppaadoor", sum := "d7cf02e8db17423fe4b77dbfb35015af52f9f4bd9e4e9277a7a30223b49f09ac", func := "mandoline/mandolinelaw18.SumBursts", spec := "sumBursts", named := ["mandoline/sum.steps"], apart := false, laid := [("mandoline/sum.steps", laid_mandoline_sum_steps)] }
def SumBurstsSaid : Prop := sumBurstsRow.holds Tryd.pinned (OpenSpec.ofChange sumBurstsSpec)

/-- ITS FALSE NEIGHBOUR: 'it returns false'. Refute it at one input. -/
def sumBurstsWrong : ChangeSpec := { name := "sumBursts", fn := fun _ => fun
  | [d1, d2, d3] => { results := [.lit (.bool false)], args := [d1, d2, d3] }
  | _ => none }
def SumBurstsWrongFalsely : Prop := sumBurstsRow.holds Tryd.pinned (OpenSpec.ofChange sumBurstsWrong)

/-- 'mandolinelaw18.SumMarks': WHATEVER THE INPUT: true; the input reads as it did. -/
def sumMarksSpec : ChangeSpec := { name := "sumMarks", fn := fun _ => fun
  | [d1, d2] => { results := [.lit (.bool true)], args := [d1, d2] }
  | _ => none }
def sumMarksRow : OpenClaim := { program := "ytoglecgkodmppaadoor", sum := "d7cf02e8db17423fe4b77dbfb35015af52f9f4bd9e4e9277a7a30223b49f09ac", func := "mandoline/mandolinelaw18.SumMarks", spec := "sumMarks", named := ["mandoline/sum.steps"], apart := false, laid := [("mandoline/sum.steps", laid_mandoline_sum_steps)] }
def SumMarksSaid : Prop := sumMarksRow.holds Tryd.pinned (OpenSpec.ofChange sumMarksSpec)

/-- ITS FALSE NEIGHBOUR: 'it returns false'. Refute it at one input. -/
def sumMarksWrong : ChangeSpec := { name := "sumMarks", fn := fun _ => fun
  | [d1, d2] => { results := [.lit (.bool false)], args := [d1, d2] }
  | _ => none }
def SumMarksWrongFalsely : Prop := sumMarksRow.holds Tryd.pinned (OpenSpec.ofChange sumMarksWrong)

/- THE SECOND FORM. 'bulk': how many values and letters a reading holds, each counted each time it is reached (what is shared counts as often as it is met; a slice's spare places count too). A statement '..UptoSaid' is the law's where the arguments, and the package variables that the reading takes, are together of bulk at most 1048576: NARROWER than '..Said'. Prove '..Said' where nothing that the law and all that it calls make is longer than what came in: it says more and counts as full. Else prove '..UptoSaid'. A law counts once. -/
mutual
def uptoBulk {H : Type} : DataW H → Nat
  | .lit (.string bytes) => bytes.length + 1
  | .lit _ => 1
  | .nil => 1
  | .ptr d => uptoBulk d + 1
  | .slice elems spare => uptoBulkAll elems + uptoBulkAll spare + 1
  | .agg parts => uptoBulkAll parts + 1
  | .iface _ d => uptoBulk d + 1
  | .map entries => uptoBulkEntries entries + 1
  | .held _ => 1
def uptoBulkAll {H : Type} : List (DataW H) → Nat
  | [] => 0
  | d :: r => uptoBulk d + uptoBulkAll r
def uptoBulkEntries {H : Type} : List (Lit × DataW H) → Nat
  | [] => 0
  | x :: r => uptoBulkEntry x + uptoBulkEntries r
def uptoBulkEntry {H : Type} : Lit × DataW H → Nat
  | (.string bytes, d) => bytes.length + uptoBulk d + 1
  | (_, d) => uptoBulk d + 1
 end
def uptoSmall : (H : Type) → List (DataW H) → Bool := fun _ ds => decide (uptoBulkAll ds ≤ 1048576)
def OpenSpec.upto (s : _root_.Go.ChangeSpec) : _root_.Go.OpenSpec := { _root_.Go.OpenSpec.ofChange s with cond := some uptoSmall }

/-- 'mandolinelaw18.SumOf', WHERE WHAT IT READS IS OF BULK AT MOST 1048576: true; the input reads as it did. -/
def sumOfUptoRow : OpenClaim := { program := "ytoglecgkodmppaadoor", sum := "d7cf02e8db17423fe4b77dbfb35015af52f9f4bd9e4e9277a7a30223b49f09ac", func := "mandoline/mandolinelaw18.SumOf", spec := "sumOf", named := ["mandoline/sum.steps"], apart := false, laid := [("mandoline/sum.steps", laid_mandoline_sum_steps)], narrowed := true }
def SumOfUptoSaid : Prop := sumOfUptoRow.holds Tryd.pinned (OpenSpec.upto sumOfSpec)

/-- 'mandolinelaw18.SumParts', WHERE WHAT IT READS IS OF BULK AT MOST 1048576: true; the input reads as it did. -/
def sumPartsUptoRow : OpenClaim := { program := "ytoglecgkodmppaadoor", sum := "d7cf02e8db17423fe4b77dbfb35015af52f9f4bd9e4e9277a7a30223b49f09ac", func := "mandoline/mandolinelaw18.SumParts", spec := "sumParts", named := ["mandoline/sum.steps"], apart := false, laid := [("mandoline/sum.steps", laid_mandoline_sum_steps)], narrowed := true }
def SumPartsUptoSaid : Prop := sumPartsUptoRow.holds Tryd.pinned (OpenSpec.upto sumPartsSpec)

/-- 'mandolinelaw18.SumJoins', WHERE WHAT IT READS IS OF BULK AT MOST 1048576: true; the input reads as it did. -/
def sumJoinsUptoRow : OpenClaim := { program := "ytoglecgkodmppaadoor", sum := "d7cf02e8db17423fe4b77dbfb35015af52f9f4bd9e4e9277a7a30223b49f09ac", func := "mandoline/mandolinelaw18.SumJoins", spec := "sumJoins", named := ["mandoline/sum.steps"], apart := false, laid := [("mandoline/sum.steps", laid_mandoline_sum_steps)], narrowed := true }
def SumJoinsUptoSaid : Prop := sumJoinsUptoRow.holds Tryd.pinned (OpenSpec.upto sumJoinsSpec)

/-- 'mandolinelaw18.SumFar', WHERE WHAT IT READS IS OF BULK AT MOST 1048576: true; the input reads as it did. -/
def sumFarUptoRow : OpenClaim := { program := "ytoglecgkodmppaadoor", sum := "d7cf02e8db17423fe4b77dbfb35015af52f9f4bd9e4e9277a7a30223b49f09ac", func := "mandoline/mandolinelaw18.SumFar", spec := "sumFar", named := ["mandoline/sum.steps"], apart := false, laid := [("mandoline/sum.steps", laid_mandoline_sum_steps)], narrowed := true }
def SumFarUptoSaid : Prop := sumFarUptoRow.holds Tryd.pinned (OpenSpec.upto sumFarSpec)

/-- 'mandolinelaw18.SumFixes', WHERE WHAT IT READS IS OF BULK AT MOST 1048576: true; the input reads as it did. -/
def sumFixesUptoRow : OpenClaim := { program := "ytoglecgkodmppaadoor", sum := "d7cf02e8db17423fe4b77dbfb35015af52f9f4bd9e4e9277a7a30223b49f09ac", func := "mandoline/mandolinelaw18.SumFixes", spec := "sumFixes", named := ["mandoline/sum.steps"], apart := false, laid := [("mandoline/sum.steps", laid_mandoline_sum_steps)], narrowed := true }
def SumFixesUptoSaid : Prop := sumFixesUptoRow.holds Tryd.pinned (OpenSpec.upto sumFixesSpec)

/-- 'mandolinelaw18.SumBursts', WHERE WHAT IT READS IS OF BULK AT MOST 1048576: true; the input reads as it did. -/
def sumBurstsUptoRow : OpenClaim := { program := "ytoglecgkodmppaadoor", sum := "d7cf02e8db17423fe4b77dbfb35015af52f9f4bd9e4e9277a7a30223b49f09ac", func := "mandoline/mandolinelaw18.SumBursts", spec := "sumBursts", named := ["mandoline/sum.steps"], apart := false, laid := [("mandoline/sum.steps", laid_mandoline_sum_steps)], narrowed := true }
def SumBurstsUptoSaid : Prop := sumBurstsUptoRow.holds Tryd.pinned (OpenSpec.upto sumBurstsSpec)

/-- 'mandolinelaw18.SumMarks', WHERE WHAT IT READS IS OF BULK AT MOST 1048576: true; the input reads as it did. -/
def sumMarksUptoRow : OpenClaim := { program := "ytoglecgkodmppaadoor", sum := "d7cf02e8db17423fe4b77dbfb35015af52f9f4bd9e4e9277a7a30223b49f09ac", func := "mandoline/mandolinelaw18.SumMarks", spec := "sumMarks", named := ["mandoline/sum.steps"], apart := false, laid := [("mandoline/sum.steps", laid_mandoline_sum_steps)], narrowed := true }
def SumMarksUptoSaid : Prop := sumMarksUptoRow.holds Tryd.pinned (OpenSpec.upto sumMarksSpec)

end Rows
end Go.Proofs.YtoglecgkodmppaaDoor
