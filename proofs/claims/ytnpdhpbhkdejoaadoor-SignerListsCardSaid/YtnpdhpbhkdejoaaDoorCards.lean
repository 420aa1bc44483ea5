/-
  DERIVED. GIVEN WITH THE SEED: THE CARDS: each row of YtnpdhpbhkdejoaaDoorRows.lean that lists a variable, with what it lists TIED to the program's text (the seventh form; the later family's looks); each row that meets fmt, with fmt's text TOLD by the authors' own Lean function (tested against real Go, not proved from fmt's source: count such statements apart). THE CARD IS WHAT COUNTS. Prove the row's statement (the work); the ties are given (YtnpdhpbhkdejoaaDoorTie.lean); close each card by the builder's one call (the guide's Derived/Test/ToyasCard.lean, 'card_holds'). Laid BY PROGRAM, IN A SANDBOX (cutbox-door.mjs). By AI agents, Wed Nov 11 2026. No macro, syntax, notation, axiom, sorry.
-/
import Derived.Test.YtnpdhpbhkdejoaaDoorRows
import GoSem.ClaimSeven
namespace Go.Proofs.YtnpdhpbhkdejoaaDoor
namespace Rows

/-- THE TIED CARD OF 'tabellionlaw19.SignerLists'. -/
def signerListsCard : Claim7 := { stood := { row := signerListsRow, standIns := [], harness := (true, "cfe2a60f479c63b9a15fd419dfe1d329a1bf17a844262fe083afd9e1c5980eb3"), looks := false }, kinds := [], alts := [], laidByText := true, laidKinds := [.data, .data], laidTests := true, laidLooks := .later }
def SignerListsCardSaid : Prop := Claim7.holds Tryd.pinned (.plain (OpenSpec.ofChange signerListsSpec)) signerListsCard

/-- THE SECOND FORM's CARD OF 'tabellionlaw19.SignerLists'. -/
def signerListsUptoCard : Claim7 := { stood := { row := signerListsUptoRow, standIns := [], harness := (true, "cfe2a60f479c63b9a15fd419dfe1d329a1bf17a844262fe083afd9e1c5980eb3"), looks := false }, kinds := [], alts := [], laidByText := true, laidKinds := [.data, .data], laidTests := true, laidLooks := .later }
def SignerListsUptoCardSaid : Prop := Claim7.holds Tryd.pinned (.plain (OpenSpec.upto signerListsSpec)) signerListsUptoCard
end Rows
end Go.Proofs.YtnpdhpbhkdejoaaDoor
