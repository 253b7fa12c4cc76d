/-
  DERIVED. GIVEN WITH THE SEED: THE CARDS: each row of YtpojlchikaffhaaDoorRows.lean that lists a variable, with what it lists TIED to the program's text (the seventh form; the later family's looks); each row that meets fmt, with fmt's text TOLD by the authors' own Lean function (tested against real Go, not proved from fmt's source: count such statements apart). THE CARD IS WHAT COUNTS. Prove the row's statement (the work); the ties are given (YtpojlchikaffhaaDoorTie.lean); close each card by the builder's one call (the guide's Derived/Test/ToyasCard.lean, 'card_holds'). Laid BY PROGRAM, IN A SANDBOX (cutbox-door.mjs). By AI agents, Wed Nov 11 2026. No macro, syntax, notation, axiom, sorry.
-/
import Derived.Test.YtpojlchikaffhaaDoorRows
import GoSem.ClaimSeven
namespace Go.Proofs.YtpojlchikaffhaaDoor
namespace Rows

/-- THE TIED CARD OF 'mandolinelaw22.JournalOwn'. -/
def journalOwnCard : Claim7 := { stood := { row := journalOwnRow, standIns := [], harness := (true, "bf6b3ee8c18f971cebdad7d7bcbafa1ed57b16224ba29deb4924d149f19c9e17"), looks := false }, kinds := [], alts := [], laidByText := true, laidKinds := [.data], laidTests := true, laidLooks := .later }
def JournalOwnCardSaid : Prop := Claim7.holds Tryd.pinned (.plain (OpenSpec.ofChange journalOwnSpec)) journalOwnCard

/-- THE TIED CARD OF 'mandolinelaw22.JournalPlays'. -/
def journalPlaysCard : Claim7 := { stood := { row := journalPlaysRow, standIns := [], harness := (true, "bf6b3ee8c18f971cebdad7d7bcbafa1ed57b16224ba29deb4924d149f19c9e17"), looks := false }, kinds := [], alts := [], laidByText := true, laidKinds := [.data], laidTests := true, laidLooks := .later }
def JournalPlaysCardSaid : Prop := Claim7.holds Tryd.pinned (.plain (OpenSpec.ofChange journalPlaysSpec)) journalPlaysCard

/-- THE TIED CARD OF 'mandolinelaw22.JournalCut'. -/
def journalCutCard : Claim7 := { stood := { row := journalCutRow, standIns := [], harness := (true, "bf6b3ee8c18f971cebdad7d7bcbafa1ed57b16224ba29deb4924d149f19c9e17"), looks := false }, kinds := [], alts := [], laidByText := true, laidKinds := [.data], laidTests := true, laidLooks := .later }
def JournalCutCardSaid : Prop := Claim7.holds Tryd.pinned (.plain (OpenSpec.ofChange journalCutSpec)) journalCutCard

/-- THE TIED CARD OF 'mandolinelaw22.JournalAgain'. -/
def journalAgainCard : Claim7 := { stood := { row := journalAgainRow, standIns := [], harness := (true, "bf6b3ee8c18f971cebdad7d7bcbafa1ed57b16224ba29deb4924d149f19c9e17"), looks := false }, kinds := [], alts := [], laidByText := true, laidKinds := [.data], laidTests := true, laidLooks := .later }
def JournalAgainCardSaid : Prop := Claim7.holds Tryd.pinned (.plain (OpenSpec.ofChange journalAgainSpec)) journalAgainCard

/-- THE TIED CARD OF 'mandolinelaw22.JournalTurned'. -/
def journalTurnedCard : Claim7 := { stood := { row := journalTurnedRow, standIns := [], harness := (true, "bf6b3ee8c18f971cebdad7d7bcbafa1ed57b16224ba29deb4924d149f19c9e17"), looks := false }, kinds := [], alts := [], laidByText := true, laidKinds := [.data], laidTests := true, laidLooks := .later }
def JournalTurnedCardSaid : Prop := Claim7.holds Tryd.pinned (.plain (OpenSpec.ofChange journalTurnedSpec)) journalTurnedCard

/-- THE TIED CARD OF 'mandolinelaw22.JournalOpens'. -/
def journalOpensCard : Claim7 := { stood := { row := journalOpensRow, standIns := [], harness := (true, "bf6b3ee8c18f971cebdad7d7bcbafa1ed57b16224ba29deb4924d149f19c9e17"), looks := false }, kinds := [], alts := [], laidByText := true, laidKinds := [.data], laidTests := true, laidLooks := .later }
def JournalOpensCardSaid : Prop := Claim7.holds Tryd.pinned (.plain (OpenSpec.ofChange journalOpensSpec)) journalOpensCard

/-- THE SECOND FORM's CARD OF 'mandolinelaw22.JournalOwn'. -/
def journalOwnUptoCard : Claim7 := { stood := { row := journalOwnUptoRow, standIns := [], harness := (true, "bf6b3ee8c18f971cebdad7d7bcbafa1ed57b16224ba29deb4924d149f19c9e17"), looks := false }, kinds := [], alts := [], laidByText := true, laidKinds := [.data], laidTests := true, laidLooks := .later }
def JournalOwnUptoCardSaid : Prop := Claim7.holds Tryd.pinned (.plain (OpenSpec.upto journalOwnSpec)) journalOwnUptoCard

/-- THE SECOND FORM's CARD OF 'mandolinelaw22.JournalPlays'. -/
def journalPlaysUptoCard : Claim7 := { stood := { row := journalPlaysUptoRow, standIns := [], harness := (true, "bf6b3ee8c18f971cebdad7d7bcbafa1ed57b16224ba29deb4924d149f19c9e17"), looks := false }, kinds := [], alts := [], laidByText := true, laidKinds := [.data], laidTests := true, laidLooks := .later }
def JournalPlaysUptoCardSaid : Prop := Claim7.holds Tryd.pinned (.plain (OpenSpec.upto journalPlaysSpec)) journalPlaysUptoCard

/-- THE SECOND FORM's CARD OF 'mandolinelaw22.JournalCut'. -/
def journalCutUptoCard : Claim7 := { stood := { row := journalCutUptoRow, standIns := [], harness := (true, "bf6b3ee8c18f971cebdad7d7bcbafa1ed57b16224ba29deb4924d149f19c9e17"), looks := false }, kinds := [], alts := [], laidByText := true, laidKinds := [.data], laidTests := true, laidLooks := .later }
def JournalCutUptoCardSaid : Prop := Claim7.holds Tryd.pinned (.plain (OpenSpec.upto journalCutSpec)) journalCutUptoCard

/-- THE SECOND FORM's CARD OF 'mandolinelaw22.JournalAgain'. -/
def journalAgainUptoCard : Claim7 := { stood := { row := journalAgainUptoRow, standIns := [], harness := (true, "bf6b3ee8c18f971cebdad7d7bcbafa1ed57b16224ba29deb4924d149f19c9e17"), looks := false }, kinds := [], alts := [], laidByText := true, laidKinds := [.data], laidTests := true, laidLooks := .later }
def JournalAgainUptoCardSaid : Prop := Claim7.holds Tryd.pinned (.plain (OpenSpec.upto journalAgainSpec)) journalAgainUptoCard

/-- THE SECOND FORM's CARD OF 'mandolinelaw22.JournalTurned'. -/
def journalTurnedUptoCard : Claim7 := { stood := { row := journalTurnedUptoRow, standIns := [], harness := (true, "bf6b3ee8c18f971cebdad7d7bcbafa1ed57b16224ba29deb4924d149f19c9e17"), looks := false }, kinds := [], alts := [], laidByText := true, laidKinds := [.data], laidTests := true, laidLooks := .later }
def JournalTurnedUptoCardSaid : Prop := Claim7.holds Tryd.pinned (.plain (OpenSpec.upto journalTurnedSpec)) journalTurnedUptoCard

/-- THE SECOND FORM's CARD OF 'mandolinelaw22.JournalOpens'. -/
def journalOpensUptoCard : Claim7 := { stood := { row := journalOpensUptoRow, standIns := [], harness := (true, "bf6b3ee8c18f971cebdad7d7bcbafa1ed57b16224ba29deb4924d149f19c9e17"), looks := false }, kinds := [], alts := [], laidByText := true, laidKinds := [.data], laidTests := true, laidLooks := .later }
def JournalOpensUptoCardSaid : Prop := Claim7.holds Tryd.pinned (.plain (OpenSpec.upto journalOpensSpec)) journalOpensUptoCard
end Rows
end Go.Proofs.YtpojlchikaffhaaDoor
