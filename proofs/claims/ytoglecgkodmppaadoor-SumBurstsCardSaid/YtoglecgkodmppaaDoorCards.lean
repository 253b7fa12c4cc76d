/-
  DERIVED. GIVEN WITH THE SEED: THE CARDS: each row of YtoglecgkodmppaaDoorRows.lean that lists a variable, with what it lists TIED to the program's text (the seventh form; the later family's looks); each row that meets fmt, with fmt's text TOLD by the authors' own Lean function (tested against real Go, not proved from fmt's source: count such statements apart). THE CARD IS WHAT COUNTS. Prove the row's statement (the work); the ties are given (YtoglecgkodmppaaDoorTie.lean); close each card by the builder's one call (the guide's Derived/Test/ToyasCard.lean, 'card_holds'). Laid BY PROGRAM, IN A SANDBOX (cutbox-door.mjs). By AI agents, Wed Nov 11 2026. No macro, syntax, notation, axiom, sorry.
-/
import Derived.Test.YtoglecgkodmppaaDoorRows
import GoSem.ClaimSeven
namespace Go.Proofs.YtoglecgkodmppaaDoor
namespace Rows

/-- THE TIED CARD OF 'mandolinelaw18.SumOf'. -/
def sumOfCard : Claim7 := { stood := { row := sumOfRow, standIns := [], harness := (true, "35eec5d6a18a2063c82def9ecd5599cac631864fe698ecea8868dc5ad6bd1b66"), looks := false }, kinds := [], alts := [], laidByText := true, laidKinds := [.data], laidTests := true, laidLooks := .later }
def SumOfCardSaid : Prop := Claim7.holds Tryd.pinned (.plain (OpenSpec.ofChange sumOfSpec)) sumOfCard

/-- THE TIED CARD OF 'mandolinelaw18.SumParts'. -/
def sumPartsCard : Claim7 := { stood := { row := sumPartsRow, standIns := [], harness := (true, "35eec5d6a18a2063c82def9ecd5599cac631864fe698ecea8868dc5ad6bd1b66"), looks := false }, kinds := [], alts := [], laidByText := true, laidKinds := [.data], laidTests := true, laidLooks := .later }
def SumPartsCardSaid : Prop := Claim7.holds Tryd.pinned (.plain (OpenSpec.ofChange sumPartsSpec)) sumPartsCard

/-- THE TIED CARD OF 'mandolinelaw18.SumJoins'. -/
def sumJoinsCard : Claim7 := { stood := { row := sumJoinsRow, standIns := [], harness := (true, "35eec5d6a18a2063c82def9ecd5599cac631864fe698ecea8868dc5ad6bd1b66"), looks := false }, kinds := [], alts := [], laidByText := true, laidKinds := [.data], laidTests := true, laidLooks := .later }
def SumJoinsCardSaid : Prop := Claim7.holds Tryd.pinned (.plain (OpenSpec.ofChange sumJoinsSpec)) sumJoinsCard

/-- THE TIED CARD OF 'mandolinelaw18.SumFar'. -/
def sumFarCard : Claim7 := { stood := { row := sumFarRow, standIns := [], harness := (true, "35eec5d6a18a2063c82def9ecd5599cac631864fe698ecea8868dc5ad6bd1b66"), looks := false }, kinds := [], alts := [], laidByText := true, laidKinds := [.data], laidTests := true, laidLooks := .later }
def SumFarCardSaid : Prop := Claim7.holds Tryd.pinned (.plain (OpenSpec.ofChange sumFarSpec)) sumFarCard

/-- THE TIED CARD OF 'mandolinelaw18.SumFixes'. -/
def sumFixesCard : Claim7 := { stood := { row := sumFixesRow, standIns := [], harness := (true, "35eec5d6a18a2063c82def9ecd5599cac631864fe698ecea8868dc5ad6bd1b66"), looks := false }, kinds := [], alts := [], laidByText := true, laidKinds := [.data], laidTests := true, laidLooks := .later }
def SumFixesCardSaid : Prop := Claim7.holds Tryd.pinned (.plain (OpenSpec.ofChange sumFixesSpec)) sumFixesCard

/-- THE TIED CARD OF 'mandolinelaw18.SumBursts'. -/
def sumBurstsCard : Claim7 := { stood := { row := sumBurstsRow, standIns := [], harness := (true, "35eec5d6a18a2063c82def9ecd5599cac631864fe698ecea8868dc5ad6bd1b66"), looks := false }, kinds := [], alts := [], laidByText := true, laidKinds := [.data], laidTests := true, laidLooks := .later }
def SumBurstsCardSaid : Prop := Claim7.holds Tryd.pinned (.plain (OpenSpec.ofChange sumBurstsSpec)) sumBurstsCard

/-- THE TIED CARD OF 'mandolinelaw18.SumMarks'. -/
def sumMarksCard : Claim7 := { stood := { row := sumMarksRow, standIns := [], harness := (true, "35eec5d6a18a2063c82def9ecd5599cac631864fe698ecea8868dc5ad6bd1b66"), looks := false }, kinds := [], alts := [], laidByText := true, laidKinds := [.data], laidTests := true, laidLooks := .later }
def SumMarksCardSaid : Prop := Claim7.holds Tryd.pinned (.plain (OpenSpec.ofChange sumMarksSpec)) sumMarksCard

/-- THE SECOND FORM's CARD OF 'mandolinelaw18.SumOf'. -/
def sumOfUptoCard : Claim7 := { stood := { row := sumOfUptoRow, standIns := [], harness := (true, "35eec5d6a18a2063c82def9ecd5599cac631864fe698ecea8868dc5ad6bd1b66"), looks := false }, kinds := [], alts := [], laidByText := true, laidKinds := [.data], laidTests := true, laidLooks := .later }
def SumOfUptoCardSaid : Prop := Claim7.holds Tryd.pinned (.plain (OpenSpec.upto sumOfSpec)) sumOfUptoCard

/-- THE SECOND FORM's CARD OF 'mandolinelaw18.SumParts'. -/
def sumPartsUptoCard : Claim7 := { stood := { row := sumPartsUptoRow, standIns := [], harness := (true, "35eec5d6a18a2063c82def9ecd5599cac631864fe698ecea8868dc5ad6bd1b66"), looks := false }, kinds := [], alts := [], laidByText := true, laidKinds := [.data], laidTests := true, laidLooks := .later }
def SumPartsUptoCardSaid : Prop := Claim7.holds Tryd.pinned (.plain (OpenSpec.upto sumPartsSpec)) sumPartsUptoCard

/-- THE SECOND FORM's CARD OF 'mandolinelaw18.SumJoins'. -/
def sumJoinsUptoCard : Claim7 := { stood := { row := sumJoinsUptoRow, standIns := [], harness := (true, "35eec5d6a18a2063c82def9ecd5599cac631864fe698ecea8868dc5ad6bd1b66"), looks := false }, kinds := [], alts := [], laidByText := true, laidKinds := [.data], laidTests := true, laidLooks := .later }
def SumJoinsUptoCardSaid : Prop := Claim7.holds Tryd.pinned (.plain (OpenSpec.upto sumJoinsSpec)) sumJoinsUptoCard

/-- THE SECOND FORM's CARD OF 'mandolinelaw18.SumFar'. -/
def sumFarUptoCard : Claim7 := { stood := { row := sumFarUptoRow, standIns := [], harness := (true, "35eec5d6a18a2063c82def9ecd5599cac631864fe698ecea8868dc5ad6bd1b66"), looks := false }, kinds := [], alts := [], laidByText := true, laidKinds := [.data], laidTests := true, laidLooks := .later }
def SumFarUptoCardSaid : Prop := Claim7.holds Tryd.pinned (.plain (OpenSpec.upto sumFarSpec)) sumFarUptoCard

/-- THE SECOND FORM's CARD OF 'mandolinelaw18.SumFixes'. -/
def sumFixesUptoCard : Claim7 := { stood := { row := sumFixesUptoRow, standIns := [], harness := (true, "35eec5d6a18a2063c82def9ecd5599cac631864fe698ecea8868dc5ad6bd1b66"), looks := false }, kinds := [], alts := [], laidByText := true, laidKinds := [.data], laidTests := true, laidLooks := .later }
def SumFixesUptoCardSaid : Prop := Claim7.holds Tryd.pinned (.plain (OpenSpec.upto sumFixesSpec)) sumFixesUptoCard

/-- THE SECOND FORM's CARD OF 'mandolinelaw18.SumBursts'. -/
def sumBurstsUptoCard : Claim7 := { stood := { row := sumBurstsUptoRow, standIns := [], harness := (true, "35eec5d6a18a2063c82def9ecd5599cac631864fe698ecea8868dc5ad6bd1b66"), looks := false }, kinds := [], alts := [], laidByText := true, laidKinds := [.data], laidTests := true, laidLooks := .later }
def SumBurstsUptoCardSaid : Prop := Claim7.holds Tryd.pinned (.plain (OpenSpec.upto sumBurstsSpec)) sumBurstsUptoCard

/-- THE SECOND FORM's CARD OF 'mandolinelaw18.SumMarks'. -/
def sumMarksUptoCard : Claim7 := { stood := { row := sumMarksUptoRow, standIns := [], harness := (true, "35eec5d6a18a2063c82def9ecd5599cac631864fe698ecea8868dc5ad6bd1b66"), looks := false }, kinds := [], alts := [], laidByText := true, laidKinds := [.data], laidTests := true, laidLooks := .later }
def SumMarksUptoCardSaid : Prop := Claim7.holds Tryd.pinned (.plain (OpenSpec.upto sumMarksSpec)) sumMarksUptoCard
end Rows
end Go.Proofs.YtoglecgkodmppaaDoor
