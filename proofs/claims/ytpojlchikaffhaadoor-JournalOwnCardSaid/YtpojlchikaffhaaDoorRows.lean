/-
  NARROWER THAN 'FOR EVERY INPUT', by the rows' own cells (each row's printed sentence says how): JournalOwn: laid · JournalPlays: laid · JournalCut: laid · JournalAgain: laid · JournalTurned: laid · JournalOpens: laid.
  DERIVED. THE GIVEN ROWS OF THIS SEAT. 6 by the template 'for every input the law returns true; each argument reads behind the call as it read before'; 0 by the template 'total and deterministic' (their statements: YtpojlchikaffhaaDoorTotals.lean).
  GIVEN WITH THE SEED: the statements are not yours to turn. If you find one false, say at which input.
  Laid BY PROGRAM, IN A SANDBOX (cutbox-rows.mjs): the forced cells as the released guide's own fill.sh prints them over the translation e614c8b60485ce87… (all of the seat's roots in one cut). By AI agents, Wed Nov 11 2026. No macro, syntax, notation, axiom, sorry.
-/
import Derived.Test.YtpojlchikaffhaaDoorChecked
import GoSem.Claim
import GoSem.ClaimJoined
import GoSem.ClaimMapViews
import Derived.JoinedTies
import Derived.KernelRfl
namespace Go.Proofs.YtpojlchikaffhaaDoor
/- THE CELL 'sum', in the pinned program and in every row, IS THE sha256 OF THE DUMP (.gsa) THAT YtpojlchikaffhaaDoorProg.lean LOADS. Nothing in Lean hashes anything: it is a label: what it is worth is what the hold of that sum in a sandbox is worth. -/
noncomputable def Tryd.pinned : Pinned := { name := "ytpojlchikaffhaadoor", sum := "e614c8b60485ce87893e4bd9583ad977be97dc7aff6675813216081dee5ba627", checked := Tryd.checked }
namespace Rows
def none {H : Type} : Left H := { results := [], args := [] }

/- WHAT THE LISTED PACKAGE-LEVEL VARIABLES READ AS WHEN THE CALL BEGINS. Each datum BY PROGRAM (the guide's laid-datum.mjs) off the statement by which the dump's own 'gosem.cut.vars' lays the variable. In a bare row this is a premise. The card (YtpojlchikaffhaaDoorCards.lean) ties it to the program's text. -/
def laid_mandoline_sum_steps {H : Type} : DataW H := .agg [.lit (.int .u32 0), .lit (.int .u32 498536548), .lit (.int .u32 997073096), .lit (.int .u32 651767980), .lit (.int .u32 1994146192), .lit (.int .u32 1802195444), .lit (.int .u32 1303535960), .lit (.int .u32 1342533948), .lit (.int .u32 3988292384), .lit (.int .u32 4027552580), .lit (.int .u32 3604390888), .lit (.int .u32 3412177804), .lit (.int .u32 2607071920), .lit (.int .u32 2262029012), .lit (.int .u32 2685067896), .lit (.int .u32 3183342108)]

/-- 'mandolinelaw22.JournalOwn': WHATEVER THE INPUT: true; the input reads as it did. -/
def journalOwnSpec : ChangeSpec := { name := "journalOwn", fn := fun _ => fun
  | [d1, d2] => { results := [.lit (.bool true)], args := [d1, d2] }
  | _ => none }
def journalOwnRow : OpenClaim := { program := "ytpojlchikaffhaadoor", sum := "e614c8b60485ce87893e4bd9583ad977be97dc7aff6675813216081dee5ba627", func := "mandoline/mandolinelaw22.JournalOwn", spec := "journalOwn", named := ["mandoline/sum.steps"], apart := false, laid := [("mandoline/sum.steps", laid_mandoline_sum_steps)] }
def JournalOwnSaid : Prop := journalOwnRow.holds Tryd.pinned (OpenSpec.ofChange journalOwnSpec)

/-- ITS FALSE NEIGHBOUR: 'it returns false'. Refute it at one input. -/
def journalOwnWrong : ChangeSpec := { name := "journalOwn", fn := fun _ => fun
  | [d1, d2] => { results := [.lit (.bool false)], args := [d1, d2] }
  | _ => none }
def JournalOwnWrongFalsely : Prop := journalOwnRow.holds Tryd.pinned (OpenSpec.ofChange journalOwnWrong)

/-- 'mandolinelaw22.JournalPlays': WHATEVER THE INPUT: true; the input reads as it did. -/
def journalPlaysSpec : ChangeSpec := { name := "journalPlays", fn := fun _ => fun
  | [d1, d2] => { results := [.lit (.bool true)], args := [d1, d2] }
  | _ => none }
def journalPlaysRow : OpenClaim := { program := "ytpojlchikaffhaadoor", sum := "e614c8b60485ce87893e4bd9583ad977be97dc7aff6675813216081dee5ba627", func := "mandoline/mandolinelaw22.JournalPlays", spec := "journalPlays", named := ["mandoline/sum.steps"], apart := false, laid := [("mandoline/sum.steps", laid_mandoline_sum_steps)] }
def JournalPlaysSaid : Prop := journalPlaysRow.holds Tryd.pinned (OpenSpec.ofChange journalPlaysSpec)

/-- ITS FALSE NEIGHBOUR: 'it returns false'. Refute it at one input. -/
def journalPlaysWrong : ChangeSpec := { name := "journalPlays", fn := fun _ => fun
  | [d1, d2] => { results := [.lit (.bool false)], args := [d1, d2] }
  | _ => none }
def JournalPlaysWrongFalsely : Prop := journalPlaysRow.holds Tryd.pinned (OpenSpec.ofChange journalPlaysWrong)

/-- 'mandolinelaw22.JournalCut': WHATEVER THE INPUT: true; the input reads as it did. -/
def journalCutSpec : ChangeSpec := { name := "journalCut", fn := fun _ => fun
  | [d1, d2, d3] => { results := [.lit (.bool true)], args := [d1, d2, d3] }
  | _ => none }
def journalCutRow : OpenClaim := { program := "ytpojlchikaffhaadoor", sum := "e614c8b60485ce87893e4bd9583ad977be97dc7aff6675813216081dee5ba627", func := "mandoline/mandolinelaw22.JournalCut", spec := "journalCut", named := ["mandoline/sum.steps"], apart := false, laid := [("mandoline/sum.steps", laid_mandoline_sum_steps)] }
def JournalCutSaid : Prop := journalCutRow.holds Tryd.pinned (OpenSpec.ofChange journalCutSpec)

/-- ITS FALSE NEIGHBOUR: 'it returns false'. Refute it at one input. -/
def journalCutWrong : ChangeSpec := { name := "journalCut", fn := fun _ => fun
  | [d1, d2, d3] => { results := [.lit (.bool false)], args := [d1, d2, d3] }
  | _ => none }
def JournalCutWrongFalsely : Prop := journalCutRow.holds Tryd.pinned (OpenSpec.ofChange journalCutWrong)

/-- 'mandolinelaw22.JournalAgain': WHATEVER THE INPUT: true; the input reads as it did. -/
def journalAgainSpec : ChangeSpec := { name := "journalAgain", fn := fun _ => fun
  | [d1, d2] => { results := [.lit (.bool true)], args := [d1, d2] }
  | _ => none }
def journalAgainRow : OpenClaim := { program := "ytpojlchikaffhaadoor", sum := "e614c8b60485ce87893e4bd9583ad977be97dc7aff6675813216081dee5ba627", func := "mandoline/mandolinelaw22.JournalAgain", spec := "journalAgain", named := ["mandoline/sum.steps"], apart := false, laid := [("mandoline/sum.steps", laid_mandoline_sum_steps)] }
def JournalAgainSaid : Prop := journalAgainRow.holds Tryd.pinned (OpenSpec.ofChange journalAgainSpec)

/-- ITS FALSE NEIGHBOUR: 'it returns false'. Refute it at one input. -/
def journalAgainWrong : ChangeSpec := { name := "journalAgain", fn := fun _ => fun
  | [d1, d2] => { results := [.lit (.bool false)], args := [d1, d2] }
  | _ => none }
def JournalAgainWrongFalsely : Prop := journalAgainRow.holds Tryd.pinned (OpenSpec.ofChange journalAgainWrong)

/-- 'mandolinelaw22.JournalTurned': WHATEVER THE INPUT: true; the input reads as it did. -/
def journalTurnedSpec : ChangeSpec := { name := "journalTurned", fn := fun _ => fun
  | [d1, d2, d3] => { results := [.lit (.bool true)], args := [d1, d2, d3] }
  | _ => none }
def journalTurnedRow : OpenClaim := { program := "ytpojlchikaffhaadoor", sum := "e614c8b60485ce87893e4bd9583ad977be97dc7aff6675813216081dee5ba627", func := "mandoline/mandolinelaw22.JournalTurned", spec := "journalTurned", named := ["mandoline/sum.steps"], apart := false, laid := [("mandoline/sum.steps", laid_mandoline_sum_steps)] }
def JournalTurnedSaid : Prop := journalTurnedRow.holds Tryd.pinned (OpenSpec.ofChange journalTurnedSpec)

/-- ITS FALSE NEIGHBOUR: 'it returns false'. Refute it at one input. -/
def journalTurnedWrong : ChangeSpec := { name := "journalTurned", fn := fun _ => fun
  | [d1, d2, d3] => { results := [.lit (.bool false)], args := [d1, d2, d3] }
  | _ => none }
def JournalTurnedWrongFalsely : Prop := journalTurnedRow.holds Tryd.pinned (OpenSpec.ofChange journalTurnedWrong)

/-- 'mandolinelaw22.JournalOpens': WHATEVER THE INPUT: true; the input reads as it did. -/
def journalOpensSpec : ChangeSpec := { name := "journalOpens", fn := fun _ => fun
  | [d1, d2] => { results := [.lit (.bool true)], args := [d1, d2] }
  | _ => none }
def journalOpensRow : OpenClaim := { program := "ytpojlchikaffhaadoor", sum := "e614c8b60485ce87893e4bd9583ad977be97dc7aff6675813216081dee5ba627", func := "mandoline/mandolinelaw22.JournalOpens", spec := "journalOpens", named := ["mandoline/sum.steps"], apart := false, laid := [("mandoline/sum.steps", laid_mandoline_sum_steps)] }
def JournalOpensSaid : Prop := journalOpensRow.holds Tryd.pinned (OpenSpec.ofChange journalOpensSpec)

/-- ITS FALSE NEIGHBOUR: 'it returns false'. Refute it at one input. -/
def journalOpensWrong : ChangeSpec := { name := "journalOpens", fn := fun _ => fun
  | [d1, d2] => { results := [.lit (.bool false)], args := [d1, d2] }
  | _ => none }
def JournalOpensWrongFalsely : Prop := journalOpensRow.holds Tryd.pinned (OpenSpec.ofChange journalOpensWrong)

/- THE SECOND FORM. 'bulk': how many values and letters a reading holds, each counted each time it is reached (what is shared counts as often as it is met; a slice's spare places count too). A statement '..UptoSaid' is the law's where the arguments, and the package variables that the reading takes, are together of bulk at most 1048576: NARROWER than '..Said'. Prove '..Said' where nothing that the law and all that it calls make is longer than what came in: it says more and counts as full. Else prove '..UptoSaid'. A law counts once. -/
mutual
def uptoBulk {H : Type} : DataW H → Nat
  | .lit (.string bytes) => bytes.length + 1
  | .lit _ => 1
  | .nil => 1
  | .ptr d => uptoBulk d + 1
  | .slice elems spare => uptoBulkAll elems + uptoBulkAll spare + 1
  | .agg parts => uptoBulkAll parts + 1
  | .iface _ d => uptoBulk d + 1
  | .map entries => uptoBulkEntries entries + 1
  | .held _ => 1
def uptoBulkAll {H : Type} : List (DataW H) → Nat
  | [] => 0
  | d :: r => uptoBulk d + uptoBulkAll r
def uptoBulkEntries {H : Type} : List (Lit × DataW H) → Nat
  | [] => 0
  | x :: r => uptoBulkEntry x + uptoBulkEntries r
def uptoBulkEntry {H : Type} : Lit × DataW H → Nat
  | (.string bytes, d) => bytes.length + uptoBulk d + 1
  | (_, d) => uptoBulk d + 1
 end
def uptoSmall : (H : Type) → List (DataW H) → Bool := fun _ ds => decide (uptoBulkAll ds ≤ 1048576)
def OpenSpec.upto (s : _root_.Go.ChangeSpec) : _root_.Go.OpenSpec := { _root_.Go.OpenSpec.ofChange s with cond := some uptoSmall }

/-- 'mandolinelaw22.JournalOwn', WHERE WHAT IT READS IS OF BULK AT MOST 1048576: true; the input reads as it did. -/
def journalOwnUptoRow : OpenClaim := { program := "ytpojlchikaffhaadoor", sum := "e614c8b60485ce87893e4bd9583ad977be97dc7aff6675813216081dee5ba627", func := "mandoline/mandolinelaw22.JournalOwn", spec := "journalOwn", named := ["mandoline/sum.steps"], apart := false, laid := [("mandoline/sum.steps", laid_mandoline_sum_steps)], narrowed := true }
def JournalOwnUptoSaid : Prop := journalOwnUptoRow.holds Tryd.pinned (OpenSpec.upto journalOwnSpec)

/-- 'mandolinelaw22.JournalPlays', WHERE WHAT IT READS IS OF BULK AT MOST 1048576: true; the input reads as it did. -/
def journalPlaysUptoRow : OpenClaim := { program := "ytpojlchikaffhaadoor", sum := "e614c8b60485ce87893e4bd9583ad977be97dc7aff6675813216081dee5ba627", func := "mandoline/mandolinelaw22.JournalPlays", spec := "journalPlays", named := ["mandoline/sum.steps"], apart := false, laid := [("mandoline/sum.steps", laid_mandoline_sum_steps)], narrowed := true }
def JournalPlaysUptoSaid : Prop := journalPlaysUptoRow.holds Tryd.pinned (OpenSpec.upto journalPlaysSpec)

/-- 'mandolinelaw22.JournalCut', WHERE WHAT IT READS IS OF BULK AT MOST 1048576: true; the input reads as it did. -/
def journalCutUptoRow : OpenClaim := { program := "ytpojlchikaffhaadoor", sum := "e614c8b60485ce87893e4bd9583ad977be97dc7aff6675813216081dee5ba627", func := "mandoline/mandolinelaw22.JournalCut", spec := "journalCut", named := ["mandoline/sum.steps"], apart := false, laid := [("mandoline/sum.steps", laid_mandoline_sum_steps)], narrowed := true }
def JournalCutUptoSaid : Prop := journalCutUptoRow.holds Tryd.pinned (OpenSpec.upto journalCutSpec)

/-- 'mandolinelaw22.JournalAgain', WHERE WHAT IT READS IS OF BULK AT MOST 1048576: true; the input reads as it did. -/
def journalAgainUptoRow : OpenClaim := { program := "ytpojlchikaffhaadoor", sum := "e614c8b60485ce87893e4bd9583ad977be97dc7aff6675813216081dee5ba627", func := "mandoline/mandolinelaw22.JournalAgain", spec := "journalAgain", named := ["mandoline/sum.steps"], apart := false, laid := [("mandoline/sum.steps", laid_mandoline_sum_steps)], narrowed := true }
def JournalAgainUptoSaid : Prop := journalAgainUptoRow.holds Tryd.pinned (OpenSpec.upto journalAgainSpec)

/-- 'mandolinelaw22.JournalTurned', WHERE WHAT IT READS IS OF BULK AT MOST 1048576: true; the input reads as it did. -/
def journalTurnedUptoRow : OpenClaim := { program := "ytpojlchikaffhaadoor", sum := "e614c8b60485ce87893e4bd9583ad977be97dc7aff6675813216081dee5ba627", func := "mandoline/mandolinelaw22.JournalTurned", spec := "journalTurned", named := ["mandoline/sum.steps"], apart := false, laid := [("mandoline/sum.steps", laid_mandoline_sum_steps)], narrowed := true }
def JournalTurnedUptoSaid : Prop := journalTurnedUptoRow.holds Tryd.pinned (OpenSpec.upto journalTurnedSpec)

/-- 'mandolinelaw22.JournalOpens', WHERE WHAT IT READS IS OF BULK AT MOST 1048576: true; the input reads as it did. -/
def journalOpensUptoRow : OpenClaim := { program := "ytpojlchikaffhaadoor", sum := "e614c8b60485ce87893e4bd9583ad977be97dc7aff6675813216081dee5ba627", func := "mandoline/mandolinelaw22.JournalOpens", spec := "journalOpens", named := ["mandoline/sum.steps"], apart := false, laid := [("mandoline/sum.steps", laid_mandoline_sum_steps)], narrowed := true }
def JournalOpensUptoSaid : Prop := journalOpensUptoRow.holds Tryd.pinned (OpenSpec.upto journalOpensSpec)

end Rows
end Go.Proofs.YtpojlchikaffhaaDoor
