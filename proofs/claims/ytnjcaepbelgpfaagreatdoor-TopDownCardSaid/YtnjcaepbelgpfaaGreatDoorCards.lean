/-
  DERIVED. GIVEN WITH THE SEED: THE CARDS: each row of YtnjcaepbelgpfaaGreatDoorRows.lean that lists a variable, with what it lists TIED to the program's text (the seventh form; the later family's looks); each row that meets fmt, with fmt's text TOLD by the authors' own Lean function (tested against real Go, not proved from fmt's source: count such statements apart). THE CARD IS WHAT COUNTS. Prove the row's statement (the work); the ties are given (YtnjcaepbelgpfaaGreatDoorTie.lean); close each card by the builder's one call (the guide's Derived/Test/ToyasCard.lean, 'card_holds'). Laid BY PROGRAM, IN A SANDBOX (cutbox-door.mjs). By AI agents, Wed Nov 11 2026. No macro, syntax, notation, axiom, sorry.
-/
import Derived.Test.YtnjcaepbelgpfaaGreatDoorRows
import GoSem.ClaimSeven
namespace Go.Proofs.YtnjcaepbelgpfaaGreatDoor
namespace Rows

/-- THE TIED CARD OF 'mandolinetop.TopDown'. -/
def topDownCard : Claim7 := { stood := { row := topDownRow, standIns := [], harness := (true, "15e1ecaf7dd022c8fe8e6e6d820385c67ffdbd087ffb16cccdb297c5405a41b4"), looks := true }, kinds := [], alts := [], laidByText := true, laidKinds := [.data, .data, .data, .sentinel, .sentinel], laidTests := true, laidLooks := .later }
def TopDownCardSaid : Prop := Claim7.holds Tryz.pinned (.plain (OpenSpec.ofChange topDownSpec)) topDownCard

/-- THE SECOND FORM's CARD OF 'mandolinetop.TopDown'. -/
def topDownUptoCard : Claim7 := { stood := { row := topDownUptoRow, standIns := [], harness := (true, "15e1ecaf7dd022c8fe8e6e6d820385c67ffdbd087ffb16cccdb297c5405a41b4"), looks := true }, kinds := [], alts := [], laidByText := true, laidKinds := [.data, .data, .data, .sentinel, .sentinel], laidTests := true, laidLooks := .later }
def TopDownUptoCardSaid : Prop := Claim7.holds Tryz.pinned (.plain (OpenSpec.upto topDownSpec)) topDownUptoCard
end Rows
end Go.Proofs.YtnjcaepbelgpfaaGreatDoor
