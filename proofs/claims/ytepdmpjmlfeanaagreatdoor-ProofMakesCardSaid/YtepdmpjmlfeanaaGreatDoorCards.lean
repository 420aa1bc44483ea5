/-
  DERIVED. GIVEN WITH THE SEED: THE CARDS: each row of YtepdmpjmlfeanaaGreatDoorRows.lean that lists a variable, with what it lists TIED to the program's text (the seventh form; the later family's looks); each row that meets fmt, with fmt's text TOLD by the authors' own Lean function (tested against real Go, not proved from fmt's source: count such statements apart). THE CARD IS WHAT COUNTS. Prove the row's statement (the work); the ties are given (YtepdmpjmlfeanaaGreatDoorTie.lean); close each card by the builder's one call (the guide's Derived/Test/ToyasCard.lean, 'card_holds'). Laid BY PROGRAM, IN A SANDBOX (cutbox-door.mjs). By AI agents, Wed Nov 11 2026. No macro, syntax, notation, axiom, sorry.
-/
import Derived.Test.YtepdmpjmlfeanaaGreatDoorRows
import GoSem.ClaimSeven
namespace Go.Proofs.YtepdmpjmlfeanaaGreatDoor
namespace Rows

/-- THE TIED CARD OF 'tabellionlaw06.ProofMakes'. -/
def proofMakesCard : Claim7 := { stood := { row := proofMakesRow, standIns := [], harness := (true, "937297c3aa11a45ac67cb7cbeca07e3477cd5b14dbbd22b18ca04956eb4fd15d"), looks := false }, kinds := [], alts := [], laidByText := true, laidKinds := [.data, .data], laidTests := true, laidLooks := .later }
def ProofMakesCardSaid : Prop := Claim7.holds Tryz.pinned (.plain (OpenSpec.ofChange proofMakesSpec)) proofMakesCard

/-- THE SECOND FORM's CARD OF 'tabellionlaw06.ProofMakes'. -/
def proofMakesUptoCard : Claim7 := { stood := { row := proofMakesUptoRow, standIns := [], harness := (true, "937297c3aa11a45ac67cb7cbeca07e3477cd5b14dbbd22b18ca04956eb4fd15d"), looks := false }, kinds := [], alts := [], laidByText := true, laidKinds := [.data, .data], laidTests := true, laidLooks := .later }
def ProofMakesUptoCardSaid : Prop := Claim7.holds Tryz.pinned (.plain (OpenSpec.upto proofMakesSpec)) proofMakesUptoCard
end Rows
end Go.Proofs.YtepdmpjmlfeanaaGreatDoor
