/-
  DERIVED. GIVEN WITH THE SEED: THE CARDS: each row of YtmlbaehjlbpbcaaDoorRows.lean that lists a variable, with what it lists TIED to the program's text (the seventh form; the later family's looks); each row that meets fmt, with fmt's text TOLD by the authors' own Lean function (tested against real Go, not proved from fmt's source: count such statements apart). THE CARD IS WHAT COUNTS. Prove the row's statement (the work); the ties are given (YtmlbaehjlbpbcaaDoorTie.lean); close each card by the builder's one call (the guide's Derived/Test/ToyasCard.lean, 'card_holds'). Laid BY PROGRAM, IN A SANDBOX (cutbox-door.mjs). By AI agents, Wed Nov 11 2026. No macro, syntax, notation, axiom, sorry.
-/
import Derived.Test.YtmlbaehjlbpbcaaDoorRows
import GoSem.ClaimSeven
namespace Go.Proofs.YtmlbaehjlbpbcaaDoor
namespace Rows

/-- THE TIED CARD OF 'tabellionlaw10.DirectoryChecks'. -/
def directoryChecksCard : Claim7 := { stood := { row := directoryChecksRow, standIns := [], harness := (true, "561654186689cf9c9ce7cb871ecb75f78d1963d2f4d9699089f8ba80ad91f643"), looks := false }, kinds := [], alts := [], laidByText := true, laidKinds := [.data, .data], laidTests := true, laidLooks := .later }
def DirectoryChecksCardSaid : Prop := Claim7.holds Tryd.pinned (.plain (OpenSpec.ofChange directoryChecksSpec)) directoryChecksCard

/-- THE SECOND FORM's CARD OF 'tabellionlaw10.DirectoryChecks'. -/
def directoryChecksUptoCard : Claim7 := { stood := { row := directoryChecksUptoRow, standIns := [], harness := (true, "561654186689cf9c9ce7cb871ecb75f78d1963d2f4d9699089f8ba80ad91f643"), looks := false }, kinds := [], alts := [], laidByText := true, laidKinds := [.data, .data], laidTests := true, laidLooks := .later }
def DirectoryChecksUptoCardSaid : Prop := Claim7.holds Tryd.pinned (.plain (OpenSpec.upto directoryChecksSpec)) directoryChecksUptoCard
end Rows
end Go.Proofs.YtmlbaehjlbpbcaaDoor
