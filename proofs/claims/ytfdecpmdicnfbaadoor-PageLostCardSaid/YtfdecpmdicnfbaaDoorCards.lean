/-
  DERIVED. GIVEN WITH THE SEED: THE CARDS: each row of YtfdecpmdicnfbaaDoorRows.lean that lists a variable, with what it lists TIED to the program's text (the seventh form; the later family's looks); each row that meets fmt, with fmt's text TOLD by the authors' own Lean function (tested against real Go, not proved from fmt's source: count such statements apart). THE CARD IS WHAT COUNTS. Prove the row's statement (the work); the ties are given (YtfdecpmdicnfbaaDoorTie.lean); close each card by the builder's one call (the guide's Derived/Test/ToyasCard.lean, 'card_holds'). Laid BY PROGRAM, IN A SANDBOX (cutbox-door.mjs). By AI agents, Wed Nov 11 2026. No macro, syntax, notation, axiom, sorry.
-/
import Derived.Test.YtfdecpmdicnfbaaDoorRows
import GoSem.ClaimSeven
namespace Go.Proofs.YtfdecpmdicnfbaaDoor
namespace Rows

/-- THE TIED CARD OF 'mandolinelaw20.PageRoom'. -/
def pageRoomCard : Claim7 := { stood := { row := pageRoomRow, standIns := [], harness := (true, "f1b5fca167c4e8963284f2e8b9191a0f93bf76055ed39b46f6efc12d58d18636"), looks := false }, kinds := [], alts := [], laidByText := true, laidKinds := [.data], laidTests := true, laidLooks := .later }
def PageRoomCardSaid : Prop := Claim7.holds Tryd.pinned (.plain (OpenSpec.ofChange pageRoomSpec)) pageRoomCard

/-- THE TIED CARD OF 'mandolinelaw20.PageGets'. -/
def pageGetsCard : Claim7 := { stood := { row := pageGetsRow, standIns := [], harness := (true, "f1b5fca167c4e8963284f2e8b9191a0f93bf76055ed39b46f6efc12d58d18636"), looks := false }, kinds := [], alts := [], laidByText := true, laidKinds := [.data], laidTests := true, laidLooks := .later }
def PageGetsCardSaid : Prop := Claim7.holds Tryd.pinned (.plain (OpenSpec.ofChange pageGetsSpec)) pageGetsCard

/-- THE TIED CARD OF 'mandolinelaw20.PagePuts'. -/
def pagePutsCard : Claim7 := { stood := { row := pagePutsRow, standIns := [], harness := (true, "f1b5fca167c4e8963284f2e8b9191a0f93bf76055ed39b46f6efc12d58d18636"), looks := false }, kinds := [], alts := [], laidByText := true, laidKinds := [.data], laidTests := true, laidLooks := .later }
def PagePutsCardSaid : Prop := Claim7.holds Tryd.pinned (.plain (OpenSpec.ofChange pagePutsSpec)) pagePutsCard

/-- THE TIED CARD OF 'mandolinelaw20.PageBack'. -/
def pageBackCard : Claim7 := { stood := { row := pageBackRow, standIns := [], harness := (true, "f1b5fca167c4e8963284f2e8b9191a0f93bf76055ed39b46f6efc12d58d18636"), looks := false }, kinds := [], alts := [], laidByText := true, laidKinds := [.data], laidTests := true, laidLooks := .later }
def PageBackCardSaid : Prop := Claim7.holds Tryd.pinned (.plain (OpenSpec.ofChange pageBackSpec)) pageBackCard

/-- THE TIED CARD OF 'mandolinelaw20.PageRots'. -/
def pageRotsCard : Claim7 := { stood := { row := pageRotsRow, standIns := [], harness := (true, "f1b5fca167c4e8963284f2e8b9191a0f93bf76055ed39b46f6efc12d58d18636"), looks := false }, kinds := [], alts := [], laidByText := true, laidKinds := [.data], laidTests := true, laidLooks := .later }
def PageRotsCardSaid : Prop := Claim7.holds Tryd.pinned (.plain (OpenSpec.ofChange pageRotsSpec)) pageRotsCard

/-- THE TIED CARD OF 'mandolinelaw20.PageLost'. -/
def pageLostCard : Claim7 := { stood := { row := pageLostRow, standIns := [], harness := (true, "f1b5fca167c4e8963284f2e8b9191a0f93bf76055ed39b46f6efc12d58d18636"), looks := false }, kinds := [], alts := [], laidByText := true, laidKinds := [.data], laidTests := true, laidLooks := .later }
def PageLostCardSaid : Prop := Claim7.holds Tryd.pinned (.plain (OpenSpec.ofChange pageLostSpec)) pageLostCard

/-- THE SECOND FORM's CARD OF 'mandolinelaw20.PageRoom'. -/
def pageRoomUptoCard : Claim7 := { stood := { row := pageRoomUptoRow, standIns := [], harness := (true, "f1b5fca167c4e8963284f2e8b9191a0f93bf76055ed39b46f6efc12d58d18636"), looks := false }, kinds := [], alts := [], laidByText := true, laidKinds := [.data], laidTests := true, laidLooks := .later }
def PageRoomUptoCardSaid : Prop := Claim7.holds Tryd.pinned (.plain (OpenSpec.upto pageRoomSpec)) pageRoomUptoCard

/-- THE SECOND FORM's CARD OF 'mandolinelaw20.PageGets'. -/
def pageGetsUptoCard : Claim7 := { stood := { row := pageGetsUptoRow, standIns := [], harness := (true, "f1b5fca167c4e8963284f2e8b9191a0f93bf76055ed39b46f6efc12d58d18636"), looks := false }, kinds := [], alts := [], laidByText := true, laidKinds := [.data], laidTests := true, laidLooks := .later }
def PageGetsUptoCardSaid : Prop := Claim7.holds Tryd.pinned (.plain (OpenSpec.upto pageGetsSpec)) pageGetsUptoCard

/-- THE SECOND FORM's CARD OF 'mandolinelaw20.PagePuts'. -/
def pagePutsUptoCard : Claim7 := { stood := { row := pagePutsUptoRow, standIns := [], harness := (true, "f1b5fca167c4e8963284f2e8b9191a0f93bf76055ed39b46f6efc12d58d18636"), looks := false }, kinds := [], alts := [], laidByText := true, laidKinds := [.data], laidTests := true, laidLooks := .later }
def PagePutsUptoCardSaid : Prop := Claim7.holds Tryd.pinned (.plain (OpenSpec.upto pagePutsSpec)) pagePutsUptoCard

/-- THE SECOND FORM's CARD OF 'mandolinelaw20.PageBack'. -/
def pageBackUptoCard : Claim7 := { stood := { row := pageBackUptoRow, standIns := [], harness := (true, "f1b5fca167c4e8963284f2e8b9191a0f93bf76055ed39b46f6efc12d58d18636"), looks := false }, kinds := [], alts := [], laidByText := true, laidKinds := [.data], laidTests := true, laidLooks := .later }
def PageBackUptoCardSaid : Prop := Claim7.holds Tryd.pinned (.plain (OpenSpec.upto pageBackSpec)) pageBackUptoCard

/-- THE SECOND FORM's CARD OF 'mandolinelaw20.PageRots'. -/
def pageRotsUptoCard : Claim7 := { stood := { row := pageRotsUptoRow, standIns := [], harness := (true, "f1b5fca167c4e8963284f2e8b9191a0f93bf76055ed39b46f6efc12d58d18636"), looks := false }, kinds := [], alts := [], laidByText := true, laidKinds := [.data], laidTests := true, laidLooks := .later }
def PageRotsUptoCardSaid : Prop := Claim7.holds Tryd.pinned (.plain (OpenSpec.upto pageRotsSpec)) pageRotsUptoCard

/-- THE SECOND FORM's CARD OF 'mandolinelaw20.PageLost'. -/
def pageLostUptoCard : Claim7 := { stood := { row := pageLostUptoRow, standIns := [], harness := (true, "f1b5fca167c4e8963284f2e8b9191a0f93bf76055ed39b46f6efc12d58d18636"), looks := false }, kinds := [], alts := [], laidByText := true, laidKinds := [.data], laidTests := true, laidLooks := .later }
def PageLostUptoCardSaid : Prop := Claim7.holds Tryd.pinned (.plain (OpenSpec.upto pageLostSpec)) pageLostUptoCard
end Rows
end Go.Proofs.YtfdecpmdicnfbaaDoor
