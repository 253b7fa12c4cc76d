/-
  DERIVED. GIVEN WITH THE SEED: THE CARDS: each row of YtendnkklbeiegaaGreatDoorRows.lean that lists a variable, with what it lists TIED to the program's text (the seventh form; the later family's looks); each row that meets fmt, with fmt's text TOLD by the authors' own Lean function (tested against real Go, not proved from fmt's source: count such statements apart). THE CARD IS WHAT COUNTS. Prove the row's statement (the work); the ties are given (YtendnkklbeiegaaGreatDoorTie.lean); close each card by the builder's one call (the guide's Derived/Test/ToyasCard.lean, 'card_holds'). Laid BY PROGRAM, IN A SANDBOX (cutbox-door.mjs). By AI agents, Wed Nov 11 2026. No macro, syntax, notation, axiom, sorry.
-/
import Derived.Test.YtendnkklbeiegaaGreatDoorRows
import GoSem.ClaimSeven
namespace Go.Proofs.YtendnkklbeiegaaGreatDoor
namespace Rows

/-- THE TIED CARD OF 'mandolinetop.TopLasts'. -/
def topLastsCard : Claim7 := { stood := { row := topLastsRow, standIns := [], harness := (true, "e15ab28d0f8bb0f0bd299c79ba443062ace5ddf24b97e69bc881638da92242e7"), looks := true }, kinds := [], alts := [], laidByText := true, laidKinds := [.data, .data, .data, .data, .data, .sentinel, .sentinel, .pinned], laidTests := true, laidLooks := .later }
def TopLastsCardSaid : Prop := Claim7.holds Tryz.pinned (.plain (OpenSpec.ofChange topLastsSpec)) topLastsCard

/-- THE TIED CARD OF 'mandolinetop.TopScrub'. -/
def topScrubCard : Claim7 := { stood := { row := topScrubRow, standIns := [], harness := (true, "e15ab28d0f8bb0f0bd299c79ba443062ace5ddf24b97e69bc881638da92242e7"), looks := true }, kinds := [], alts := [], laidByText := true, laidKinds := [.data, .data, .data, .data, .data, .sentinel, .sentinel, .pinned], laidTests := true, laidLooks := .later }
def TopScrubCardSaid : Prop := Claim7.holds Tryz.pinned (.plain (OpenSpec.ofChange topScrubSpec)) topScrubCard

/-- THE SECOND FORM's CARD OF 'mandolinetop.TopLasts'. -/
def topLastsUptoCard : Claim7 := { stood := { row := topLastsUptoRow, standIns := [], harness := (true, "e15ab28d0f8bb0f0bd299c79ba443062ace5ddf24b97e69bc881638da92242e7"), looks := true }, kinds := [], alts := [], laidByText := true, laidKinds := [.data, .data, .data, .data, .data, .sentinel, .sentinel, .pinned], laidTests := true, laidLooks := .later }
def TopLastsUptoCardSaid : Prop := Claim7.holds Tryz.pinned (.plain (OpenSpec.upto topLastsSpec)) topLastsUptoCard

/-- THE SECOND FORM's CARD OF 'mandolinetop.TopScrub'. -/
def topScrubUptoCard : Claim7 := { stood := { row := topScrubUptoRow, standIns := [], harness := (true, "e15ab28d0f8bb0f0bd299c79ba443062ace5ddf24b97e69bc881638da92242e7"), looks := true }, kinds := [], alts := [], laidByText := true, laidKinds := [.data, .data, .data, .data, .data, .sentinel, .sentinel, .pinned], laidTests := true, laidLooks := .later }
def TopScrubUptoCardSaid : Prop := Claim7.holds Tryz.pinned (.plain (OpenSpec.upto topScrubSpec)) topScrubUptoCard
end Rows
end Go.Proofs.YtendnkklbeiegaaGreatDoor
