/-
  DERIVED. GIVEN WITH THE SEED: THE CARDS: each row of YtdpmcnhdmhanbaaGreatDoorRows.lean that lists a variable, with what it lists TIED to the program's text (the seventh form; the later family's looks); each row that meets fmt, with fmt's text TOLD by the authors' own Lean function (tested against real Go, not proved from fmt's source: count such statements apart). THE CARD IS WHAT COUNTS. Prove the row's statement (the work); the ties are given (YtdpmcnhdmhanbaaGreatDoorTie.lean); close each card by the builder's one call (the guide's Derived/Test/ToyasCard.lean, 'card_holds'). Laid BY PROGRAM, IN A SANDBOX (cutbox-door.mjs). By AI agents, Wed Nov 11 2026. No macro, syntax, notation, axiom, sorry.
-/
import Derived.Test.YtdpmcnhdmhanbaaGreatDoorRows
import GoSem.ClaimSeven
namespace Go.Proofs.YtdpmcnhdmhanbaaGreatDoor
namespace Rows

/-- THE TIED CARD OF 'tabellionlaw05.SmtTrees'. -/
def smtTreesCard : Claim7 := { stood := { row := smtTreesRow, standIns := [], harness := (true, "f7c28a9f6e519bff69330d662b2b619a7e33cf04210a421475eeb547962f3a26"), looks := false }, kinds := [], alts := [], laidByText := true, laidKinds := [.data, .data], laidTests := true, laidLooks := .later }
def SmtTreesCardSaid : Prop := Claim7.holds Tryz.pinned (.plain (OpenSpec.ofChange smtTreesSpec)) smtTreesCard

/-- THE SECOND FORM's CARD OF 'tabellionlaw05.SmtTrees'. -/
def smtTreesUptoCard : Claim7 := { stood := { row := smtTreesUptoRow, standIns := [], harness := (true, "f7c28a9f6e519bff69330d662b2b619a7e33cf04210a421475eeb547962f3a26"), looks := false }, kinds := [], alts := [], laidByText := true, laidKinds := [.data, .data], laidTests := true, laidLooks := .later }
def SmtTreesUptoCardSaid : Prop := Claim7.holds Tryz.pinned (.plain (OpenSpec.upto smtTreesSpec)) smtTreesUptoCard
end Rows
end Go.Proofs.YtdpmcnhdmhanbaaGreatDoor
