/-
  DERIVED. GIVEN WITH THE SEED: THE CARDS: each row of YtepdmpjmlfeanaaDoorRows.lean that lists a variable, with what it lists TIED to the program's text (the seventh form; the later family's looks); each row that meets fmt, with fmt's text TOLD by the authors' own Lean function (tested against real Go, not proved from fmt's source: count such statements apart). THE CARD IS WHAT COUNTS. Prove the row's statement (the work); the ties are given (YtepdmpjmlfeanaaDoorTie.lean); close each card by the builder's one call (the guide's Derived/Test/ToyasCard.lean, 'card_holds'). Laid BY PROGRAM, IN A SANDBOX (cutbox-door.mjs). By AI agents, Wed Nov 11 2026. No macro, syntax, notation, axiom, sorry.
-/
import Derived.Test.YtepdmpjmlfeanaaDoorRows
import GoSem.ClaimSeven
namespace Go.Proofs.YtepdmpjmlfeanaaDoor
namespace Rows

/-- THE TIED CARD OF 'tabellionlaw06.ProofChecks'. -/
def proofChecksCard : Claim7 := { stood := { row := proofChecksRow, standIns := [], harness := (true, "b2b549886f29d28f5eeae3a845a8c5979fd9bd2abc1740fcb52be302c19fd810"), looks := false }, kinds := [], alts := [], laidByText := true, laidKinds := [.data, .data], laidTests := true, laidLooks := .later }
def ProofChecksCardSaid : Prop := Claim7.holds Tryd.pinned (.plain (OpenSpec.ofChange proofChecksSpec)) proofChecksCard

/-- THE TIED CARD OF 'tabellionlaw06.ProofClash'. -/
def proofClashCard : Claim7 := { stood := { row := proofClashRow, standIns := [], harness := (true, "b2b549886f29d28f5eeae3a845a8c5979fd9bd2abc1740fcb52be302c19fd810"), looks := false }, kinds := [], alts := [], laidByText := true, laidKinds := [.data, .data], laidTests := true, laidLooks := .later }
def ProofClashCardSaid : Prop := Claim7.holds Tryd.pinned (.plain (OpenSpec.ofChange proofClashSpec)) proofClashCard

/-- THE TIED CARD OF 'tabellionlaw06.ProofBinds'. -/
def proofBindsCard : Claim7 := { stood := { row := proofBindsRow, standIns := [], harness := (true, "b2b549886f29d28f5eeae3a845a8c5979fd9bd2abc1740fcb52be302c19fd810"), looks := false }, kinds := [], alts := [], laidByText := true, laidKinds := [.data], laidTests := true, laidLooks := .later }
def ProofBindsCardSaid : Prop := Claim7.holds Tryd.pinned (.plain (OpenSpec.ofChange proofBindsSpec)) proofBindsCard

/-- THE TIED CARD OF 'tabellionlaw06.ProofDepth'. -/
def proofDepthCard : Claim7 := { stood := { row := proofDepthRow, standIns := [], harness := (true, "b2b549886f29d28f5eeae3a845a8c5979fd9bd2abc1740fcb52be302c19fd810"), looks := false }, kinds := [], alts := [], laidByText := true, laidKinds := [.data], laidTests := true, laidLooks := .later }
def ProofDepthCardSaid : Prop := Claim7.holds Tryd.pinned (.plain (OpenSpec.ofChange proofDepthSpec)) proofDepthCard

/-- THE TIED CARD OF 'tabellionlaw06.ProofRight'. -/
def proofRightCard : Claim7 := { stood := { row := proofRightRow, standIns := [], harness := (true, "b2b549886f29d28f5eeae3a845a8c5979fd9bd2abc1740fcb52be302c19fd810"), looks := false }, kinds := [], alts := [], laidByText := true, laidKinds := [.data], laidTests := true, laidLooks := .later }
def ProofRightCardSaid : Prop := Claim7.holds Tryd.pinned (.plain (OpenSpec.ofChange proofRightSpec)) proofRightCard

/-- THE SECOND FORM's CARD OF 'tabellionlaw06.ProofChecks'. -/
def proofChecksUptoCard : Claim7 := { stood := { row := proofChecksUptoRow, standIns := [], harness := (true, "b2b549886f29d28f5eeae3a845a8c5979fd9bd2abc1740fcb52be302c19fd810"), looks := false }, kinds := [], alts := [], laidByText := true, laidKinds := [.data, .data], laidTests := true, laidLooks := .later }
def ProofChecksUptoCardSaid : Prop := Claim7.holds Tryd.pinned (.plain (OpenSpec.upto proofChecksSpec)) proofChecksUptoCard

/-- THE SECOND FORM's CARD OF 'tabellionlaw06.ProofClash'. -/
def proofClashUptoCard : Claim7 := { stood := { row := proofClashUptoRow, standIns := [], harness := (true, "b2b549886f29d28f5eeae3a845a8c5979fd9bd2abc1740fcb52be302c19fd810"), looks := false }, kinds := [], alts := [], laidByText := true, laidKinds := [.data, .data], laidTests := true, laidLooks := .later }
def ProofClashUptoCardSaid : Prop := Claim7.holds Tryd.pinned (.plain (OpenSpec.upto proofClashSpec)) proofClashUptoCard

/-- THE SECOND FORM's CARD OF 'tabellionlaw06.ProofBinds'. -/
def proofBindsUptoCard : Claim7 := { stood := { row := proofBindsUptoRow, standIns := [], harness := (true, "b2b549886f29d28f5eeae3a845a8c5979fd9bd2abc1740fcb52be302c19fd810"), looks := false }, kinds := [], alts := [], laidByText := true, laidKinds := [.data], laidTests := true, laidLooks := .later }
def ProofBindsUptoCardSaid : Prop := Claim7.holds Tryd.pinned (.plain (OpenSpec.upto proofBindsSpec)) proofBindsUptoCard

/-- THE SECOND FORM's CARD OF 'tabellionlaw06.ProofDepth'. -/
def proofDepthUptoCard : Claim7 := { stood := { row := proofDepthUptoRow, standIns := [], harness := (true, "b2b549886f29d28f5eeae3a845a8c5979fd9bd2abc1740fcb52be302c19fd810"), looks := false }, kinds := [], alts := [], laidByText := true, laidKinds := [.data], laidTests := true, laidLooks := .later }
def ProofDepthUptoCardSaid : Prop := Claim7.holds Tryd.pinned (.plain (OpenSpec.upto proofDepthSpec)) proofDepthUptoCard

/-- THE SECOND FORM's CARD OF 'tabellionlaw06.ProofRight'. -/
def proofRightUptoCard : Claim7 := { stood := { row := proofRightUptoRow, standIns := [], harness := (true, "b2b549886f29d28f5eeae3a845a8c5979fd9bd2abc1740fcb52be302c19fd810"), looks := false }, kinds := [], alts := [], laidByText := true, laidKinds := [.data], laidTests := true, laidLooks := .later }
def ProofRightUptoCardSaid : Prop := Claim7.holds Tryd.pinned (.plain (OpenSpec.upto proofRightSpec)) proofRightUptoCard
end Rows
end Go.Proofs.YtepdmpjmlfeanaaDoor
