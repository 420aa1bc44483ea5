/-
  DERIVED. GIVEN WITH THE SEED: THE CARDS: each row of YtgeonfbhejigjaaGreatDoorRows.lean that lists a variable, with what it lists TIED to the program's text (the seventh form; the later family's looks); each row that meets fmt, with fmt's text TOLD by the authors' own Lean function (tested against real Go, not proved from fmt's source: count such statements apart). THE CARD IS WHAT COUNTS. Prove the row's statement (the work); the ties are given (YtgeonfbhejigjaaGreatDoorTie.lean); close each card by the builder's one call (the guide's Derived/Test/ToyasCard.lean, 'card_holds'). Laid BY PROGRAM, IN A SANDBOX (cutbox-door.mjs). By AI agents, Wed Nov 11 2026. No macro, syntax, notation, axiom, sorry.
-/
import Derived.Test.YtgeonfbhejigjaaGreatDoorRows
import GoSem.ClaimSeven
namespace Go.Proofs.YtgeonfbhejigjaaGreatDoor
namespace Rows

/-- THE TIED CARD OF 'tabellionlaw10.DirectoryApplies'. -/
def directoryAppliesCard : Claim7 := { stood := { row := directoryAppliesRow, standIns := [], harness := (true, "6c7f46eeb160c31aa1dd0d7d029a15c41d053630a62feeccb4d2f462425f81f0"), looks := false }, kinds := [], alts := [], laidByText := true, laidKinds := [.data, .data], laidTests := true, laidLooks := .later }
def DirectoryAppliesCardSaid : Prop := Claim7.holds Tryz.pinned (.plain (OpenSpec.ofChange directoryAppliesSpec)) directoryAppliesCard

/-- THE TIED CARD OF 'tabellionlaw10.DirectoryOnce'. -/
def directoryOnceCard : Claim7 := { stood := { row := directoryOnceRow, standIns := [], harness := (true, "6c7f46eeb160c31aa1dd0d7d029a15c41d053630a62feeccb4d2f462425f81f0"), looks := false }, kinds := [], alts := [], laidByText := true, laidKinds := [.data], laidTests := true, laidLooks := .later }
def DirectoryOnceCardSaid : Prop := Claim7.holds Tryz.pinned (.plain (OpenSpec.ofChange directoryOnceSpec)) directoryOnceCard

/-- THE TIED CARD OF 'tabellionlaw10.DirectoryApart'. -/
def directoryApartCard : Claim7 := { stood := { row := directoryApartRow, standIns := [], harness := (true, "6c7f46eeb160c31aa1dd0d7d029a15c41d053630a62feeccb4d2f462425f81f0"), looks := false }, kinds := [], alts := [], laidByText := true, laidKinds := [.data], laidTests := true, laidLooks := .later }
def DirectoryApartCardSaid : Prop := Claim7.holds Tryz.pinned (.plain (OpenSpec.ofChange directoryApartSpec)) directoryApartCard

/-- THE TIED CARD OF 'tabellionlaw10.DirectoryLooks'. -/
def directoryLooksCard : Claim7 := { stood := { row := directoryLooksRow, standIns := [], harness := (true, "6c7f46eeb160c31aa1dd0d7d029a15c41d053630a62feeccb4d2f462425f81f0"), looks := false }, kinds := [], alts := [], laidByText := true, laidKinds := [.data, .data], laidTests := true, laidLooks := .later }
def DirectoryLooksCardSaid : Prop := Claim7.holds Tryz.pinned (.plain (OpenSpec.ofChange directoryLooksSpec)) directoryLooksCard

/-- THE TIED CARD OF 'tabellionlaw10.DirectoryStays'. -/
def directoryStaysCard : Claim7 := { stood := { row := directoryStaysRow, standIns := [], harness := (true, "6c7f46eeb160c31aa1dd0d7d029a15c41d053630a62feeccb4d2f462425f81f0"), looks := false }, kinds := [], alts := [], laidByText := true, laidKinds := [.data], laidTests := true, laidLooks := .later }
def DirectoryStaysCardSaid : Prop := Claim7.holds Tryz.pinned (.plain (OpenSpec.ofChange directoryStaysSpec)) directoryStaysCard

/-- THE TIED CARD OF 'tabellionlaw19.SignerSigns'. -/
def signerSignsCard : Claim7 := { stood := { row := signerSignsRow, standIns := [], harness := (true, "6c7f46eeb160c31aa1dd0d7d029a15c41d053630a62feeccb4d2f462425f81f0"), looks := false }, kinds := [], alts := [], laidByText := true, laidKinds := [.data, .data], laidTests := true, laidLooks := .later }
def SignerSignsCardSaid : Prop := Claim7.holds Tryz.pinned (.plain (OpenSpec.ofChange signerSignsSpec)) signerSignsCard

/-- THE TIED CARD OF 'tabellionlaw19.SignerAgain'. -/
def signerAgainCard : Claim7 := { stood := { row := signerAgainRow, standIns := [], harness := (true, "6c7f46eeb160c31aa1dd0d7d029a15c41d053630a62feeccb4d2f462425f81f0"), looks := false }, kinds := [], alts := [], laidByText := true, laidKinds := [.data], laidTests := true, laidLooks := .later }
def SignerAgainCardSaid : Prop := Claim7.holds Tryz.pinned (.plain (OpenSpec.ofChange signerAgainSpec)) signerAgainCard

/-- THE TIED CARD OF 'tabellionlaw19.SignerAgrees'. -/
def signerAgreesCard : Claim7 := { stood := { row := signerAgreesRow, standIns := [], harness := (true, "6c7f46eeb160c31aa1dd0d7d029a15c41d053630a62feeccb4d2f462425f81f0"), looks := false }, kinds := [], alts := [], laidByText := true, laidKinds := [.data], laidTests := true, laidLooks := .later }
def SignerAgreesCardSaid : Prop := Claim7.holds Tryz.pinned (.plain (OpenSpec.ofChange signerAgreesSpec)) signerAgreesCard

/-- THE TIED CARD OF 'tabellionlaw19.SignerChains'. -/
def signerChainsCard : Claim7 := { stood := { row := signerChainsRow, standIns := [], harness := (true, "6c7f46eeb160c31aa1dd0d7d029a15c41d053630a62feeccb4d2f462425f81f0"), looks := false }, kinds := [], alts := [], laidByText := true, laidKinds := [.data], laidTests := true, laidLooks := .later }
def SignerChainsCardSaid : Prop := Claim7.holds Tryz.pinned (.plain (OpenSpec.ofChange signerChainsSpec)) signerChainsCard

/-- THE SECOND FORM's CARD OF 'tabellionlaw10.DirectoryApplies'. -/
def directoryAppliesUptoCard : Claim7 := { stood := { row := directoryAppliesUptoRow, standIns := [], harness := (true, "6c7f46eeb160c31aa1dd0d7d029a15c41d053630a62feeccb4d2f462425f81f0"), looks := false }, kinds := [], alts := [], laidByText := true, laidKinds := [.data, .data], laidTests := true, laidLooks := .later }
def DirectoryAppliesUptoCardSaid : Prop := Claim7.holds Tryz.pinned (.plain (OpenSpec.upto directoryAppliesSpec)) directoryAppliesUptoCard

/-- THE SECOND FORM's CARD OF 'tabellionlaw10.DirectoryOnce'. -/
def directoryOnceUptoCard : Claim7 := { stood := { row := directoryOnceUptoRow, standIns := [], harness := (true, "6c7f46eeb160c31aa1dd0d7d029a15c41d053630a62feeccb4d2f462425f81f0"), looks := false }, kinds := [], alts := [], laidByText := true, laidKinds := [.data], laidTests := true, laidLooks := .later }
def DirectoryOnceUptoCardSaid : Prop := Claim7.holds Tryz.pinned (.plain (OpenSpec.upto directoryOnceSpec)) directoryOnceUptoCard

/-- THE SECOND FORM's CARD OF 'tabellionlaw10.DirectoryApart'. -/
def directoryApartUptoCard : Claim7 := { stood := { row := directoryApartUptoRow, standIns := [], harness := (true, "6c7f46eeb160c31aa1dd0d7d029a15c41d053630a62feeccb4d2f462425f81f0"), looks := false }, kinds := [], alts := [], laidByText := true, laidKinds := [.data], laidTests := true, laidLooks := .later }
def DirectoryApartUptoCardSaid : Prop := Claim7.holds Tryz.pinned (.plain (OpenSpec.upto directoryApartSpec)) directoryApartUptoCard

/-- THE SECOND FORM's CARD OF 'tabellionlaw10.DirectoryLooks'. -/
def directoryLooksUptoCard : Claim7 := { stood := { row := directoryLooksUptoRow, standIns := [], harness := (true, "6c7f46eeb160c31aa1dd0d7d029a15c41d053630a62feeccb4d2f462425f81f0"), looks := false }, kinds := [], alts := [], laidByText := true, laidKinds := [.data, .data], laidTests := true, laidLooks := .later }
def DirectoryLooksUptoCardSaid : Prop := Claim7.holds Tryz.pinned (.plain (OpenSpec.upto directoryLooksSpec)) directoryLooksUptoCard

/-- THE SECOND FORM's CARD OF 'tabellionlaw10.DirectoryStays'. -/
def directoryStaysUptoCard : Claim7 := { stood := { row := directoryStaysUptoRow, standIns := [], harness := (true, "6c7f46eeb160c31aa1dd0d7d029a15c41d053630a62feeccb4d2f462425f81f0"), looks := false }, kinds := [], alts := [], laidByText := true, laidKinds := [.data], laidTests := true, laidLooks := .later }
def DirectoryStaysUptoCardSaid : Prop := Claim7.holds Tryz.pinned (.plain (OpenSpec.upto directoryStaysSpec)) directoryStaysUptoCard

/-- THE SECOND FORM's CARD OF 'tabellionlaw19.SignerSigns'. -/
def signerSignsUptoCard : Claim7 := { stood := { row := signerSignsUptoRow, standIns := [], harness := (true, "6c7f46eeb160c31aa1dd0d7d029a15c41d053630a62feeccb4d2f462425f81f0"), looks := false }, kinds := [], alts := [], laidByText := true, laidKinds := [.data, .data], laidTests := true, laidLooks := .later }
def SignerSignsUptoCardSaid : Prop := Claim7.holds Tryz.pinned (.plain (OpenSpec.upto signerSignsSpec)) signerSignsUptoCard

/-- THE SECOND FORM's CARD OF 'tabellionlaw19.SignerAgain'. -/
def signerAgainUptoCard : Claim7 := { stood := { row := signerAgainUptoRow, standIns := [], harness := (true, "6c7f46eeb160c31aa1dd0d7d029a15c41d053630a62feeccb4d2f462425f81f0"), looks := false }, kinds := [], alts := [], laidByText := true, laidKinds := [.data], laidTests := true, laidLooks := .later }
def SignerAgainUptoCardSaid : Prop := Claim7.holds Tryz.pinned (.plain (OpenSpec.upto signerAgainSpec)) signerAgainUptoCard

/-- THE SECOND FORM's CARD OF 'tabellionlaw19.SignerAgrees'. -/
def signerAgreesUptoCard : Claim7 := { stood := { row := signerAgreesUptoRow, standIns := [], harness := (true, "6c7f46eeb160c31aa1dd0d7d029a15c41d053630a62feeccb4d2f462425f81f0"), looks := false }, kinds := [], alts := [], laidByText := true, laidKinds := [.data], laidTests := true, laidLooks := .later }
def SignerAgreesUptoCardSaid : Prop := Claim7.holds Tryz.pinned (.plain (OpenSpec.upto signerAgreesSpec)) signerAgreesUptoCard

/-- THE SECOND FORM's CARD OF 'tabellionlaw19.SignerChains'. -/
def signerChainsUptoCard : Claim7 := { stood := { row := signerChainsUptoRow, standIns := [], harness := (true, "6c7f46eeb160c31aa1dd0d7d029a15c41d053630a62feeccb4d2f462425f81f0"), looks := false }, kinds := [], alts := [], laidByText := true, laidKinds := [.data], laidTests := true, laidLooks := .later }
def SignerChainsUptoCardSaid : Prop := Claim7.holds Tryz.pinned (.plain (OpenSpec.upto signerChainsSpec)) signerChainsUptoCard
end Rows
end Go.Proofs.YtgeonfbhejigjaaGreatDoor
