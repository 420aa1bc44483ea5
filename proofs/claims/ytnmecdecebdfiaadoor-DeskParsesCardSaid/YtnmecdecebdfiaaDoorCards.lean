/-
  DERIVED. GIVEN WITH THE SEED: THE CARDS: each row of YtnmecdecebdfiaaDoorRows.lean that lists a variable, with what it lists TIED to the program's text (the seventh form; the later family's looks); each row that meets fmt, with fmt's text TOLD by the authors' own Lean function (tested against real Go, not proved from fmt's source: count such statements apart). THE CARD IS WHAT COUNTS. Prove the row's statement (the work); the ties are given (YtnmecdecebdfiaaDoorTie.lean); close each card by the builder's one call (the guide's Derived/Test/ToyasCard.lean, 'card_holds'). Laid BY PROGRAM, IN A SANDBOX (cutbox-door.mjs). By AI agents, Wed Nov 11 2026. No macro, syntax, notation, axiom, sorry.
-/
import Derived.Test.YtnmecdecebdfiaaDoorRows
import GoSem.ClaimSeven
namespace Go.Proofs.YtnmecdecebdfiaaDoor
namespace Rows

/-- THE TIED CARD OF 'tabellionlaw23.DeskParses'. -/
def deskParsesCard : Claim7 := { stood := { row := deskParsesRow, standIns := [], harness := (true, "80c4d8bd8c66bb6338a3060ad9b0fc6c45111200ed2e9648e87d405b6abdb5a8"), looks := true }, kinds := [], alts := [], laidByText := true, laidKinds := [.data, .data, .data, .data, .sentinel, .sentinel, .pinned], laidTests := true, laidLooks := .later }
def DeskParsesCardSaid : Prop := Claim7.holds Tryd.pinned (.plain (OpenSpec.ofChange deskParsesSpec)) deskParsesCard

/-- THE TIED CARD OF 'tabellionlaw23.DeskPrints'. -/
def deskPrintsCard : Claim7 := { stood := { row := deskPrintsRow, standIns := [], harness := (true, "80c4d8bd8c66bb6338a3060ad9b0fc6c45111200ed2e9648e87d405b6abdb5a8"), looks := true }, kinds := [], alts := [], laidByText := true, laidKinds := [.data, .data, .data, .data, .sentinel, .sentinel, .pinned], laidTests := true, laidLooks := .later }
def DeskPrintsCardSaid : Prop := Claim7.holds Tryd.pinned (.plain (OpenSpec.ofChange deskPrintsSpec)) deskPrintsCard

/-- THE SECOND FORM's CARD OF 'tabellionlaw23.DeskParses'. -/
def deskParsesUptoCard : Claim7 := { stood := { row := deskParsesUptoRow, standIns := [], harness := (true, "80c4d8bd8c66bb6338a3060ad9b0fc6c45111200ed2e9648e87d405b6abdb5a8"), looks := true }, kinds := [], alts := [], laidByText := true, laidKinds := [.data, .data, .data, .data, .sentinel, .sentinel, .pinned], laidTests := true, laidLooks := .later }
def DeskParsesUptoCardSaid : Prop := Claim7.holds Tryd.pinned (.plain (OpenSpec.upto deskParsesSpec)) deskParsesUptoCard

/-- THE SECOND FORM's CARD OF 'tabellionlaw23.DeskPrints'. -/
def deskPrintsUptoCard : Claim7 := { stood := { row := deskPrintsUptoRow, standIns := [], harness := (true, "80c4d8bd8c66bb6338a3060ad9b0fc6c45111200ed2e9648e87d405b6abdb5a8"), looks := true }, kinds := [], alts := [], laidByText := true, laidKinds := [.data, .data, .data, .data, .sentinel, .sentinel, .pinned], laidTests := true, laidLooks := .later }
def DeskPrintsUptoCardSaid : Prop := Claim7.holds Tryd.pinned (.plain (OpenSpec.upto deskPrintsSpec)) deskPrintsUptoCard
end Rows
end Go.Proofs.YtnmecdecebdfiaaDoor
