/-
  DERIVED. GIVEN WITH THE SEED: THE CARDS: each row of YtdcjljlppeighaaDoorRows.lean that lists a variable, with what it lists TIED to the program's text (the seventh form; the later family's looks); each row that meets fmt, with fmt's text TOLD by the authors' own Lean function (tested against real Go, not proved from fmt's source: count such statements apart). THE CARD IS WHAT COUNTS. Prove the row's statement (the work); the ties are given (YtdcjljlppeighaaDoorTie.lean); close each card by the builder's one call (the guide's Derived/Test/ToyasCard.lean, 'card_holds'). Laid BY PROGRAM, IN A SANDBOX (cutbox-door.mjs). By AI agents, Wed Nov 11 2026. No macro, syntax, notation, axiom, sorry.
-/
import Derived.Test.YtdcjljlppeighaaDoorRows
import GoSem.ClaimSeven
namespace Go.Proofs.YtdcjljlppeighaaDoor
namespace Rows

/-- THE TIED CARD OF 'mandolinelaw33.PurgePlays'. -/
def purgePlaysCard : Claim7 := { stood := { row := purgePlaysRow, standIns := [], harness := (true, "d884c83de28cd7ae23436d8f48a8fd850e74f98ead26b35f0ca5b256866d2257"), looks := true }, kinds := [], alts := [], laidByText := true, laidKinds := [.data, .data, .data, .data, .sentinel, .sentinel, .pinned], laidTests := true, laidLooks := .later }
def PurgePlaysCardSaid : Prop := Claim7.holds Tryd.pinned (.plain (OpenSpec.ofChange purgePlaysSpec)) purgePlaysCard

/-- THE TIED CARD OF 'mandolinelaw33.PurgeLast'. -/
def purgeLastCard : Claim7 := { stood := { row := purgeLastRow, standIns := [], harness := (true, "d884c83de28cd7ae23436d8f48a8fd850e74f98ead26b35f0ca5b256866d2257"), looks := true }, kinds := [], alts := [], laidByText := true, laidKinds := [.data, .data, .data, .data, .sentinel, .sentinel, .pinned], laidTests := true, laidLooks := .later }
def PurgeLastCardSaid : Prop := Claim7.holds Tryd.pinned (.plain (OpenSpec.ofChange purgeLastSpec)) purgeLastCard

/-- THE TIED CARD OF 'mandolinelaw33.PurgeAny'. -/
def purgeAnyCard : Claim7 := { stood := { row := purgeAnyRow, standIns := [], harness := (true, "d884c83de28cd7ae23436d8f48a8fd850e74f98ead26b35f0ca5b256866d2257"), looks := true }, kinds := [], alts := [], laidByText := true, laidKinds := [.data, .data, .data, .data, .sentinel, .sentinel, .pinned], laidTests := true, laidLooks := .later }
def PurgeAnyCardSaid : Prop := Claim7.holds Tryd.pinned (.plain (OpenSpec.ofChange purgeAnySpec)) purgeAnyCard

/-- THE TIED CARD OF 'mandolinelaw33.PurgeForgets'. -/
def purgeForgetsCard : Claim7 := { stood := { row := purgeForgetsRow, standIns := [], harness := (true, "d884c83de28cd7ae23436d8f48a8fd850e74f98ead26b35f0ca5b256866d2257"), looks := true }, kinds := [], alts := [], laidByText := true, laidKinds := [.data, .data, .data, .data, .sentinel, .sentinel, .pinned], laidTests := true, laidLooks := .later }
def PurgeForgetsCardSaid : Prop := Claim7.holds Tryd.pinned (.plain (OpenSpec.ofChange purgeForgetsSpec)) purgeForgetsCard

/-- THE TIED CARD OF 'mandolinelaw33.PurgeTexts'. -/
def purgeTextsCard : Claim7 := { stood := { row := purgeTextsRow, standIns := [], harness := (true, "d884c83de28cd7ae23436d8f48a8fd850e74f98ead26b35f0ca5b256866d2257"), looks := true }, kinds := [], alts := [], laidByText := true, laidKinds := [.data, .data, .data, .data, .sentinel, .sentinel, .pinned], laidTests := true, laidLooks := .later }
def PurgeTextsCardSaid : Prop := Claim7.holds Tryd.pinned (.plain (OpenSpec.ofChange purgeTextsSpec)) purgeTextsCard

/-- THE TIED CARD OF 'mandolinelaw33.PurgeBack'. -/
def purgeBackCard : Claim7 := { stood := { row := purgeBackRow, standIns := [], harness := (true, "d884c83de28cd7ae23436d8f48a8fd850e74f98ead26b35f0ca5b256866d2257"), looks := true }, kinds := [], alts := [], laidByText := true, laidKinds := [.data, .data, .data, .data, .sentinel, .sentinel, .pinned], laidTests := true, laidLooks := .later }
def PurgeBackCardSaid : Prop := Claim7.holds Tryd.pinned (.plain (OpenSpec.ofChange purgeBackSpec)) purgeBackCard

/-- THE TIED CARD OF 'mandolinelaw33.PurgeLoads'. -/
def purgeLoadsCard : Claim7 := { stood := { row := purgeLoadsRow, standIns := [], harness := (true, "d884c83de28cd7ae23436d8f48a8fd850e74f98ead26b35f0ca5b256866d2257"), looks := true }, kinds := [], alts := [], laidByText := true, laidKinds := [.data, .data, .data, .data, .sentinel, .sentinel, .pinned], laidTests := true, laidLooks := .later }
def PurgeLoadsCardSaid : Prop := Claim7.holds Tryd.pinned (.plain (OpenSpec.ofChange purgeLoadsSpec)) purgeLoadsCard

/-- THE TIED CARD OF 'mandolinelaw33.PurgeLater'. -/
def purgeLaterCard : Claim7 := { stood := { row := purgeLaterRow, standIns := [], harness := (true, "d884c83de28cd7ae23436d8f48a8fd850e74f98ead26b35f0ca5b256866d2257"), looks := true }, kinds := [], alts := [], laidByText := true, laidKinds := [.data, .data, .data, .data, .sentinel, .sentinel, .pinned], laidTests := true, laidLooks := .later }
def PurgeLaterCardSaid : Prop := Claim7.holds Tryd.pinned (.plain (OpenSpec.ofChange purgeLaterSpec)) purgeLaterCard

/-- THE SECOND FORM's CARD OF 'mandolinelaw33.PurgePlays'. -/
def purgePlaysUptoCard : Claim7 := { stood := { row := purgePlaysUptoRow, standIns := [], harness := (true, "d884c83de28cd7ae23436d8f48a8fd850e74f98ead26b35f0ca5b256866d2257"), looks := true }, kinds := [], alts := [], laidByText := true, laidKinds := [.data, .data, .data, .data, .sentinel, .sentinel, .pinned], laidTests := true, laidLooks := .later }
def PurgePlaysUptoCardSaid : Prop := Claim7.holds Tryd.pinned (.plain (OpenSpec.upto purgePlaysSpec)) purgePlaysUptoCard

/-- THE SECOND FORM's CARD OF 'mandolinelaw33.PurgeLast'. -/
def purgeLastUptoCard : Claim7 := { stood := { row := purgeLastUptoRow, standIns := [], harness := (true, "d884c83de28cd7ae23436d8f48a8fd850e74f98ead26b35f0ca5b256866d2257"), looks := true }, kinds := [], alts := [], laidByText := true, laidKinds := [.data, .data, .data, .data, .sentinel, .sentinel, .pinned], laidTests := true, laidLooks := .later }
def PurgeLastUptoCardSaid : Prop := Claim7.holds Tryd.pinned (.plain (OpenSpec.upto purgeLastSpec)) purgeLastUptoCard

/-- THE SECOND FORM's CARD OF 'mandolinelaw33.PurgeAny'. -/
def purgeAnyUptoCard : Claim7 := { stood := { row := purgeAnyUptoRow, standIns := [], harness := (true, "d884c83de28cd7ae23436d8f48a8fd850e74f98ead26b35f0ca5b256866d2257"), looks := true }, kinds := [], alts := [], laidByText := true, laidKinds := [.data, .data, .data, .data, .sentinel, .sentinel, .pinned], laidTests := true, laidLooks := .later }
def PurgeAnyUptoCardSaid : Prop := Claim7.holds Tryd.pinned (.plain (OpenSpec.upto purgeAnySpec)) purgeAnyUptoCard

/-- THE SECOND FORM's CARD OF 'mandolinelaw33.PurgeForgets'. -/
def purgeForgetsUptoCard : Claim7 := { stood := { row := purgeForgetsUptoRow, standIns := [], harness := (true, "d884c83de28cd7ae23436d8f48a8fd850e74f98ead26b35f0ca5b256866d2257"), looks := true }, kinds := [], alts := [], laidByText := true, laidKinds := [.data, .data, .data, .data, .sentinel, .sentinel, .pinned], laidTests := true, laidLooks := .later }
def PurgeForgetsUptoCardSaid : Prop := Claim7.holds Tryd.pinned (.plain (OpenSpec.upto purgeForgetsSpec)) purgeForgetsUptoCard

/-- THE SECOND FORM's CARD OF 'mandolinelaw33.PurgeTexts'. -/
def purgeTextsUptoCard : Claim7 := { stood := { row := purgeTextsUptoRow, standIns := [], harness := (true, "d884c83de28cd7ae23436d8f48a8fd850e74f98ead26b35f0ca5b256866d2257"), looks := true }, kinds := [], alts := [], laidByText := true, laidKinds := [.data, .data, .data, .data, .sentinel, .sentinel, .pinned], laidTests := true, laidLooks := .later }
def PurgeTextsUptoCardSaid : Prop := Claim7.holds Tryd.pinned (.plain (OpenSpec.upto purgeTextsSpec)) purgeTextsUptoCard

/-- THE SECOND FORM's CARD OF 'mandolinelaw33.PurgeBack'. -/
def purgeBackUptoCard : Claim7 := { stood := { row := purgeBackUptoRow, standIns := [], harness := (true, "d884c83de28cd7ae23436d8f48a8fd850e74f98ead26b35f0ca5b256866d2257"), looks := true }, kinds := [], alts := [], laidByText := true, laidKinds := [.data, .data, .data, .data, .sentinel, .sentinel, .pinned], laidTests := true, laidLooks := .later }
def PurgeBackUptoCardSaid : Prop := Claim7.holds Tryd.pinned (.plain (OpenSpec.upto purgeBackSpec)) purgeBackUptoCard

/-- THE SECOND FORM's CARD OF 'mandolinelaw33.PurgeLoads'. -/
def purgeLoadsUptoCard : Claim7 := { stood := { row := purgeLoadsUptoRow, standIns := [], harness := (true, "d884c83de28cd7ae23436d8f48a8fd850e74f98ead26b35f0ca5b256866d2257"), looks := true }, kinds := [], alts := [], laidByText := true, laidKinds := [.data, .data, .data, .data, .sentinel, .sentinel, .pinned], laidTests := true, laidLooks := .later }
def PurgeLoadsUptoCardSaid : Prop := Claim7.holds Tryd.pinned (.plain (OpenSpec.upto purgeLoadsSpec)) purgeLoadsUptoCard

/-- THE SECOND FORM's CARD OF 'mandolinelaw33.PurgeLater'. -/
def purgeLaterUptoCard : Claim7 := { stood := { row := purgeLaterUptoRow, standIns := [], harness := (true, "d884c83de28cd7ae23436d8f48a8fd850e74f98ead26b35f0ca5b256866d2257"), looks := true }, kinds := [], alts := [], laidByText := true, laidKinds := [.data, .data, .data, .data, .sentinel, .sentinel, .pinned], laidTests := true, laidLooks := .later }
def PurgeLaterUptoCardSaid : Prop := Claim7.holds Tryd.pinned (.plain (OpenSpec.upto purgeLaterSpec)) purgeLaterUptoCard
end Rows
end Go.Proofs.YtdcjljlppeighaaDoor
