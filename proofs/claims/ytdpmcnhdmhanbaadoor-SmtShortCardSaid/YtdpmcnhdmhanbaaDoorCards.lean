/-
  DERIVED. GIVEN WITH THE SEED: THE CARDS: each row of YtdpmcnhdmhanbaaDoorRows.lean that lists a variable, with what it lists TIED to the program's text (the seventh form; the later family's looks); each row that meets fmt, with fmt's text TOLD by the authors' own Lean function (tested against real Go, not proved from fmt's source: count such statements apart). THE CARD IS WHAT COUNTS. Prove the row's statement (the work); the ties are given (YtdpmcnhdmhanbaaDoorTie.lean); close each card by the builder's one call (the guide's Derived/Test/ToyasCard.lean, 'card_holds'). Laid BY PROGRAM, IN A SANDBOX (cutbox-door.mjs). By AI agents, Wed Nov 11 2026. No macro, syntax, notation, axiom, sorry.
-/
import Derived.Test.YtdpmcnhdmhanbaaDoorRows
import GoSem.ClaimSeven
namespace Go.Proofs.YtdpmcnhdmhanbaaDoor
namespace Rows

/-- THE TIED CARD OF 'tabellionlaw05.SmtRoots'. -/
def smtRootsCard : Claim7 := { stood := { row := smtRootsRow, standIns := [], harness := (true, "775f6782f30e3be4e4f27044b639d8977b92a357683bf2b76bcf67000515fb2e"), looks := false }, kinds := [], alts := [], laidByText := true, laidKinds := [.data, .data], laidTests := true, laidLooks := .later }
def SmtRootsCardSaid : Prop := Claim7.holds Tryd.pinned (.plain (OpenSpec.ofChange smtRootsSpec)) smtRootsCard

/-- THE TIED CARD OF 'tabellionlaw05.SmtOrder'. -/
def smtOrderCard : Claim7 := { stood := { row := smtOrderRow, standIns := [], harness := (true, "775f6782f30e3be4e4f27044b639d8977b92a357683bf2b76bcf67000515fb2e"), looks := false }, kinds := [], alts := [], laidByText := true, laidKinds := [.data], laidTests := true, laidLooks := .later }
def SmtOrderCardSaid : Prop := Claim7.holds Tryd.pinned (.plain (OpenSpec.ofChange smtOrderSpec)) smtOrderCard

/-- THE TIED CARD OF 'tabellionlaw05.SmtShort'. -/
def smtShortCard : Claim7 := { stood := { row := smtShortRow, standIns := [], harness := (true, "775f6782f30e3be4e4f27044b639d8977b92a357683bf2b76bcf67000515fb2e"), looks := false }, kinds := [], alts := [], laidByText := true, laidKinds := [.data, .data], laidTests := true, laidLooks := .later }
def SmtShortCardSaid : Prop := Claim7.holds Tryd.pinned (.plain (OpenSpec.ofChange smtShortSpec)) smtShortCard

/-- THE TIED CARD OF 'tabellionlaw05.SmtBack'. -/
def smtBackCard : Claim7 := { stood := { row := smtBackRow, standIns := [], harness := (true, "775f6782f30e3be4e4f27044b639d8977b92a357683bf2b76bcf67000515fb2e"), looks := false }, kinds := [], alts := [], laidByText := true, laidKinds := [.data], laidTests := true, laidLooks := .later }
def SmtBackCardSaid : Prop := Claim7.holds Tryd.pinned (.plain (OpenSpec.ofChange smtBackSpec)) smtBackCard

/-- THE TIED CARD OF 'tabellionlaw05.SmtFull'. -/
def smtFullCard : Claim7 := { stood := { row := smtFullRow, standIns := [], harness := (true, "775f6782f30e3be4e4f27044b639d8977b92a357683bf2b76bcf67000515fb2e"), looks := false }, kinds := [], alts := [], laidByText := true, laidKinds := [.data], laidTests := true, laidLooks := .later }
def SmtFullCardSaid : Prop := Claim7.holds Tryd.pinned (.plain (OpenSpec.ofChange smtFullSpec)) smtFullCard

/-- THE TIED CARD OF 'tabellionlaw05.SmtNil'. -/
def smtNilCard : Claim7 := { stood := { row := smtNilRow, standIns := [], harness := (true, "775f6782f30e3be4e4f27044b639d8977b92a357683bf2b76bcf67000515fb2e"), looks := false }, kinds := [], alts := [], laidByText := true, laidKinds := [.data], laidTests := true, laidLooks := .later }
def SmtNilCardSaid : Prop := Claim7.holds Tryd.pinned (.plain (OpenSpec.ofChange smtNilSpec)) smtNilCard

/-- THE TIED CARD OF 'tabellionlaw05.SmtGrows'. -/
def smtGrowsCard : Claim7 := { stood := { row := smtGrowsRow, standIns := [], harness := (true, "775f6782f30e3be4e4f27044b639d8977b92a357683bf2b76bcf67000515fb2e"), looks := false }, kinds := [], alts := [], laidByText := true, laidKinds := [.data], laidTests := true, laidLooks := .later }
def SmtGrowsCardSaid : Prop := Claim7.holds Tryd.pinned (.plain (OpenSpec.ofChange smtGrowsSpec)) smtGrowsCard

/-- THE TIED CARD OF 'tabellionlaw05.SmtBatches'. -/
def smtBatchesCard : Claim7 := { stood := { row := smtBatchesRow, standIns := [], harness := (true, "775f6782f30e3be4e4f27044b639d8977b92a357683bf2b76bcf67000515fb2e"), looks := false }, kinds := [], alts := [], laidByText := true, laidKinds := [.data], laidTests := true, laidLooks := .later }
def SmtBatchesCardSaid : Prop := Claim7.holds Tryd.pinned (.plain (OpenSpec.ofChange smtBatchesSpec)) smtBatchesCard

/-- THE SECOND FORM's CARD OF 'tabellionlaw05.SmtRoots'. -/
def smtRootsUptoCard : Claim7 := { stood := { row := smtRootsUptoRow, standIns := [], harness := (true, "775f6782f30e3be4e4f27044b639d8977b92a357683bf2b76bcf67000515fb2e"), looks := false }, kinds := [], alts := [], laidByText := true, laidKinds := [.data, .data], laidTests := true, laidLooks := .later }
def SmtRootsUptoCardSaid : Prop := Claim7.holds Tryd.pinned (.plain (OpenSpec.upto smtRootsSpec)) smtRootsUptoCard

/-- THE SECOND FORM's CARD OF 'tabellionlaw05.SmtOrder'. -/
def smtOrderUptoCard : Claim7 := { stood := { row := smtOrderUptoRow, standIns := [], harness := (true, "775f6782f30e3be4e4f27044b639d8977b92a357683bf2b76bcf67000515fb2e"), looks := false }, kinds := [], alts := [], laidByText := true, laidKinds := [.data], laidTests := true, laidLooks := .later }
def SmtOrderUptoCardSaid : Prop := Claim7.holds Tryd.pinned (.plain (OpenSpec.upto smtOrderSpec)) smtOrderUptoCard

/-- THE SECOND FORM's CARD OF 'tabellionlaw05.SmtShort'. -/
def smtShortUptoCard : Claim7 := { stood := { row := smtShortUptoRow, standIns := [], harness := (true, "775f6782f30e3be4e4f27044b639d8977b92a357683bf2b76bcf67000515fb2e"), looks := false }, kinds := [], alts := [], laidByText := true, laidKinds := [.data, .data], laidTests := true, laidLooks := .later }
def SmtShortUptoCardSaid : Prop := Claim7.holds Tryd.pinned (.plain (OpenSpec.upto smtShortSpec)) smtShortUptoCard

/-- THE SECOND FORM's CARD OF 'tabellionlaw05.SmtBack'. -/
def smtBackUptoCard : Claim7 := { stood := { row := smtBackUptoRow, standIns := [], harness := (true, "775f6782f30e3be4e4f27044b639d8977b92a357683bf2b76bcf67000515fb2e"), looks := false }, kinds := [], alts := [], laidByText := true, laidKinds := [.data], laidTests := true, laidLooks := .later }
def SmtBackUptoCardSaid : Prop := Claim7.holds Tryd.pinned (.plain (OpenSpec.upto smtBackSpec)) smtBackUptoCard

/-- THE SECOND FORM's CARD OF 'tabellionlaw05.SmtFull'. -/
def smtFullUptoCard : Claim7 := { stood := { row := smtFullUptoRow, standIns := [], harness := (true, "775f6782f30e3be4e4f27044b639d8977b92a357683bf2b76bcf67000515fb2e"), looks := false }, kinds := [], alts := [], laidByText := true, laidKinds := [.data], laidTests := true, laidLooks := .later }
def SmtFullUptoCardSaid : Prop := Claim7.holds Tryd.pinned (.plain (OpenSpec.upto smtFullSpec)) smtFullUptoCard

/-- THE SECOND FORM's CARD OF 'tabellionlaw05.SmtNil'. -/
def smtNilUptoCard : Claim7 := { stood := { row := smtNilUptoRow, standIns := [], harness := (true, "775f6782f30e3be4e4f27044b639d8977b92a357683bf2b76bcf67000515fb2e"), looks := false }, kinds := [], alts := [], laidByText := true, laidKinds := [.data], laidTests := true, laidLooks := .later }
def SmtNilUptoCardSaid : Prop := Claim7.holds Tryd.pinned (.plain (OpenSpec.upto smtNilSpec)) smtNilUptoCard

/-- THE SECOND FORM's CARD OF 'tabellionlaw05.SmtGrows'. -/
def smtGrowsUptoCard : Claim7 := { stood := { row := smtGrowsUptoRow, standIns := [], harness := (true, "775f6782f30e3be4e4f27044b639d8977b92a357683bf2b76bcf67000515fb2e"), looks := false }, kinds := [], alts := [], laidByText := true, laidKinds := [.data], laidTests := true, laidLooks := .later }
def SmtGrowsUptoCardSaid : Prop := Claim7.holds Tryd.pinned (.plain (OpenSpec.upto smtGrowsSpec)) smtGrowsUptoCard

/-- THE SECOND FORM's CARD OF 'tabellionlaw05.SmtBatches'. -/
def smtBatchesUptoCard : Claim7 := { stood := { row := smtBatchesUptoRow, standIns := [], harness := (true, "775f6782f30e3be4e4f27044b639d8977b92a357683bf2b76bcf67000515fb2e"), looks := false }, kinds := [], alts := [], laidByText := true, laidKinds := [.data], laidTests := true, laidLooks := .later }
def SmtBatchesUptoCardSaid : Prop := Claim7.holds Tryd.pinned (.plain (OpenSpec.upto smtBatchesSpec)) smtBatchesUptoCard
end Rows
end Go.Proofs.YtdpmcnhdmhanbaaDoor
