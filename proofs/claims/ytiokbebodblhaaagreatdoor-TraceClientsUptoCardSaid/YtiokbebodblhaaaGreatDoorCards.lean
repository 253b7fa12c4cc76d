/-
  DERIVED. GIVEN WITH THE SEED: THE CARDS: each row of YtiokbebodblhaaaGreatDoorRows.lean that lists a variable, with what it lists TIED to the program's text (the seventh form; the later family's looks); each row that meets fmt, with fmt's text TOLD by the authors' own Lean function (tested against real Go, not proved from fmt's source: count such statements apart). THE CARD IS WHAT COUNTS. Prove the row's statement (the work); the ties are given (YtiokbebodblhaaaGreatDoorTie.lean); close each card by the builder's one call (the guide's Derived/Test/ToyasCard.lean, 'card_holds'). Laid BY PROGRAM, IN A SANDBOX (cutbox-door.mjs). By AI agents, Wed Nov 11 2026. No macro, syntax, notation, axiom, sorry.
-/
import Derived.Test.YtiokbebodblhaaaGreatDoorRows
import GoSem.ClaimSeven
namespace Go.Proofs.YtiokbebodblhaaaGreatDoor
namespace Rows

/-- THE TIED CARD OF 'mandolinelaw51.TraceTexts'. -/
def traceTextsCard : Claim7 := { stood := { row := traceTextsRow, standIns := [], harness := (true, "ef5ed9cb022be998d5b785747ae6ddf6a4f325d2faf7e8f49e7aca856a8cbad3"), looks := true }, kinds := [], alts := [], laidByText := true, laidKinds := [.data, .data, .data, .data, .sentinel, .sentinel, .data, .pinned], laidTests := true, laidLooks := .later }
def TraceTextsCardSaid : Prop := Claim7.holds Tryz.pinned (.plain (OpenSpec.ofChange traceTextsSpec)) traceTextsCard

/-- THE TIED CARD OF 'mandolinelaw51.TraceParses'. -/
def traceParsesCard : Claim7 := { stood := { row := traceParsesRow, standIns := [], harness := (true, "ef5ed9cb022be998d5b785747ae6ddf6a4f325d2faf7e8f49e7aca856a8cbad3"), looks := true }, kinds := [], alts := [], laidByText := true, laidKinds := [.data, .data, .data, .data, .sentinel, .sentinel, .data, .pinned], laidTests := true, laidLooks := .later }
def TraceParsesCardSaid : Prop := Claim7.holds Tryz.pinned (.plain (OpenSpec.ofChange traceParsesSpec)) traceParsesCard

/-- THE TIED CARD OF 'mandolinelaw51.TraceSame'. -/
def traceSameCard : Claim7 := { stood := { row := traceSameRow, standIns := [], harness := (true, "ef5ed9cb022be998d5b785747ae6ddf6a4f325d2faf7e8f49e7aca856a8cbad3"), looks := true }, kinds := [], alts := [], laidByText := true, laidKinds := [.data, .data, .data, .data, .sentinel, .sentinel, .data, .pinned], laidTests := true, laidLooks := .later }
def TraceSameCardSaid : Prop := Claim7.holds Tryz.pinned (.plain (OpenSpec.ofChange traceSameSpec)) traceSameCard

/-- THE TIED CARD OF 'mandolinelaw51.TraceRight'. -/
def traceRightCard : Claim7 := { stood := { row := traceRightRow, standIns := [], harness := (true, "ef5ed9cb022be998d5b785747ae6ddf6a4f325d2faf7e8f49e7aca856a8cbad3"), looks := true }, kinds := [], alts := [], laidByText := true, laidKinds := [.data, .data, .data, .data, .sentinel, .sentinel, .data, .pinned], laidTests := true, laidLooks := .later }
def TraceRightCardSaid : Prop := Claim7.holds Tryz.pinned (.plain (OpenSpec.ofChange traceRightSpec)) traceRightCard

/-- THE TIED CARD OF 'mandolinelaw51.TraceBegins'. -/
def traceBeginsCard : Claim7 := { stood := { row := traceBeginsRow, standIns := [], harness := (true, "ef5ed9cb022be998d5b785747ae6ddf6a4f325d2faf7e8f49e7aca856a8cbad3"), looks := true }, kinds := [], alts := [], laidByText := true, laidKinds := [.data, .data, .data, .data, .sentinel, .sentinel, .data, .pinned], laidTests := true, laidLooks := .later }
def TraceBeginsCardSaid : Prop := Claim7.holds Tryz.pinned (.plain (OpenSpec.ofChange traceBeginsSpec)) traceBeginsCard

/-- THE TIED CARD OF 'mandolinelaw51.TraceSplits'. -/
def traceSplitsCard : Claim7 := { stood := { row := traceSplitsRow, standIns := [], harness := (true, "ef5ed9cb022be998d5b785747ae6ddf6a4f325d2faf7e8f49e7aca856a8cbad3"), looks := true }, kinds := [], alts := [], laidByText := true, laidKinds := [.data, .data, .data, .data, .sentinel, .sentinel, .data, .pinned], laidTests := true, laidLooks := .later }
def TraceSplitsCardSaid : Prop := Claim7.holds Tryz.pinned (.plain (OpenSpec.ofChange traceSplitsSpec)) traceSplitsCard

/-- THE TIED CARD OF 'mandolinelaw51.TraceBack'. -/
def traceBackCard : Claim7 := { stood := { row := traceBackRow, standIns := [], harness := (true, "ef5ed9cb022be998d5b785747ae6ddf6a4f325d2faf7e8f49e7aca856a8cbad3"), looks := true }, kinds := [], alts := [], laidByText := true, laidKinds := [.data, .data, .data, .data, .sentinel, .sentinel, .data, .pinned], laidTests := true, laidLooks := .later }
def TraceBackCardSaid : Prop := Claim7.holds Tryz.pinned (.plain (OpenSpec.ofChange traceBackSpec)) traceBackCard

/-- THE TIED CARD OF 'mandolinelaw51.TraceClients'. -/
def traceClientsCard : Claim7 := { stood := { row := traceClientsRow, standIns := [], harness := (true, "ef5ed9cb022be998d5b785747ae6ddf6a4f325d2faf7e8f49e7aca856a8cbad3"), looks := true }, kinds := [], alts := [], laidByText := true, laidKinds := [.data, .data, .data, .data, .sentinel, .sentinel, .data, .pinned], laidTests := true, laidLooks := .later }
def TraceClientsCardSaid : Prop := Claim7.holds Tryz.pinned (.plain (OpenSpec.ofChange traceClientsSpec)) traceClientsCard

/-- THE SECOND FORM's CARD OF 'mandolinelaw51.TraceTexts'. -/
def traceTextsUptoCard : Claim7 := { stood := { row := traceTextsUptoRow, standIns := [], harness := (true, "ef5ed9cb022be998d5b785747ae6ddf6a4f325d2faf7e8f49e7aca856a8cbad3"), looks := true }, kinds := [], alts := [], laidByText := true, laidKinds := [.data, .data, .data, .data, .sentinel, .sentinel, .data, .pinned], laidTests := true, laidLooks := .later }
def TraceTextsUptoCardSaid : Prop := Claim7.holds Tryz.pinned (.plain (OpenSpec.upto traceTextsSpec)) traceTextsUptoCard

/-- THE SECOND FORM's CARD OF 'mandolinelaw51.TraceParses'. -/
def traceParsesUptoCard : Claim7 := { stood := { row := traceParsesUptoRow, standIns := [], harness := (true, "ef5ed9cb022be998d5b785747ae6ddf6a4f325d2faf7e8f49e7aca856a8cbad3"), looks := true }, kinds := [], alts := [], laidByText := true, laidKinds := [.data, .data, .data, .data, .sentinel, .sentinel, .data, .pinned], laidTests := true, laidLooks := .later }
def TraceParsesUptoCardSaid : Prop := Claim7.holds Tryz.pinned (.plain (OpenSpec.upto traceParsesSpec)) traceParsesUptoCard

/-- THE SECOND FORM's CARD OF 'mandolinelaw51.TraceSame'. -/
def traceSameUptoCard : Claim7 := { stood := { row := traceSameUptoRow, standIns := [], harness := (true, "ef5ed9cb022be998d5b785747ae6ddf6a4f325d2faf7e8f49e7aca856a8cbad3"), looks := true }, kinds := [], alts := [], laidByText := true, laidKinds := [.data, .data, .data, .data, .sentinel, .sentinel, .data, .pinned], laidTests := true, laidLooks := .later }
def TraceSameUptoCardSaid : Prop := Claim7.holds Tryz.pinned (.plain (OpenSpec.upto traceSameSpec)) traceSameUptoCard

/-- THE SECOND FORM's CARD OF 'mandolinelaw51.TraceRight'. -/
def traceRightUptoCard : Claim7 := { stood := { row := traceRightUptoRow, standIns := [], harness := (true, "ef5ed9cb022be998d5b785747ae6ddf6a4f325d2faf7e8f49e7aca856a8cbad3"), looks := true }, kinds := [], alts := [], laidByText := true, laidKinds := [.data, .data, .data, .data, .sentinel, .sentinel, .data, .pinned], laidTests := true, laidLooks := .later }
def TraceRightUptoCardSaid : Prop := Claim7.holds Tryz.pinned (.plain (OpenSpec.upto traceRightSpec)) traceRightUptoCard

/-- THE SECOND FORM's CARD OF 'mandolinelaw51.TraceBegins'. -/
def traceBeginsUptoCard : Claim7 := { stood := { row := traceBeginsUptoRow, standIns := [], harness := (true, "ef5ed9cb022be998d5b785747ae6ddf6a4f325d2faf7e8f49e7aca856a8cbad3"), looks := true }, kinds := [], alts := [], laidByText := true, laidKinds := [.data, .data, .data, .data, .sentinel, .sentinel, .data, .pinned], laidTests := true, laidLooks := .later }
def TraceBeginsUptoCardSaid : Prop := Claim7.holds Tryz.pinned (.plain (OpenSpec.upto traceBeginsSpec)) traceBeginsUptoCard

/-- THE SECOND FORM's CARD OF 'mandolinelaw51.TraceSplits'. -/
def traceSplitsUptoCard : Claim7 := { stood := { row := traceSplitsUptoRow, standIns := [], harness := (true, "ef5ed9cb022be998d5b785747ae6ddf6a4f325d2faf7e8f49e7aca856a8cbad3"), looks := true }, kinds := [], alts := [], laidByText := true, laidKinds := [.data, .data, .data, .data, .sentinel, .sentinel, .data, .pinned], laidTests := true, laidLooks := .later }
def TraceSplitsUptoCardSaid : Prop := Claim7.holds Tryz.pinned (.plain (OpenSpec.upto traceSplitsSpec)) traceSplitsUptoCard

/-- THE SECOND FORM's CARD OF 'mandolinelaw51.TraceBack'. -/
def traceBackUptoCard : Claim7 := { stood := { row := traceBackUptoRow, standIns := [], harness := (true, "ef5ed9cb022be998d5b785747ae6ddf6a4f325d2faf7e8f49e7aca856a8cbad3"), looks := true }, kinds := [], alts := [], laidByText := true, laidKinds := [.data, .data, .data, .data, .sentinel, .sentinel, .data, .pinned], laidTests := true, laidLooks := .later }
def TraceBackUptoCardSaid : Prop := Claim7.holds Tryz.pinned (.plain (OpenSpec.upto traceBackSpec)) traceBackUptoCard

/-- THE SECOND FORM's CARD OF 'mandolinelaw51.TraceClients'. -/
def traceClientsUptoCard : Claim7 := { stood := { row := traceClientsUptoRow, standIns := [], harness := (true, "ef5ed9cb022be998d5b785747ae6ddf6a4f325d2faf7e8f49e7aca856a8cbad3"), looks := true }, kinds := [], alts := [], laidByText := true, laidKinds := [.data, .data, .data, .data, .sentinel, .sentinel, .data, .pinned], laidTests := true, laidLooks := .later }
def TraceClientsUptoCardSaid : Prop := Claim7.holds Tryz.pinned (.plain (OpenSpec.upto traceClientsSpec)) traceClientsUptoCard
end Rows
end Go.Proofs.YtiokbebodblhaaaGreatDoor
