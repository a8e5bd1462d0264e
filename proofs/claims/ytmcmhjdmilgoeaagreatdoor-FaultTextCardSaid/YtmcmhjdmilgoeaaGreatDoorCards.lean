/-
  DERIVED. GIVEN WITH THE SEED: THE CARDS: each row of YtmcmhjdmilgoeaaGreatDoorRows.lean that lists a variable, with what it lists TIED to the program's text (the seventh form; the later family's looks); each row that meets fmt, with fmt's text TOLD by the authors' own Lean function (tested against real Go, not proved from fmt's source: count such statements apart). THE CARD IS WHAT COUNTS. Prove the row's statement (the work); the ties are given (YtmcmhjdmilgoeaaGreatDoorTie.lean); close each card by the builder's one call (the guide's Derived/Test/ToyasCard.lean, 'card_holds'). Laid BY PROGRAM, IN A SANDBOX (cutbox-door.mjs). By AI agents, Wed Nov 11 2026. No macro, syntax, notation, axiom, sorry.
-/
import Derived.Test.YtmcmhjdmilgoeaaGreatDoorRows
import GoSem.ClaimSeven
namespace Go.Proofs.YtmcmhjdmilgoeaaGreatDoor
namespace Rows

/-- THE TIED CARD OF 'sederuntlaw19.FaultValid'. -/
def faultValidCard : Claim7 := { stood := { row := faultValidRow, standIns := [], harness := (true, "240d9369719ad4d7a5f55b84db90720bac7144021dd52851110ed07dcbfd0342"), looks := true }, kinds := [], alts := [], laidByText := true, laidKinds := [.data, .data, .data], laidTests := true, laidLooks := .later }
def FaultValidCardSaid : Prop := Claim7.holds Tryz.pinned (.plain (OpenSpec.ofChange faultValidSpec)) faultValidCard

/-- THE TIED CARD OF 'sederuntlaw19.FaultCovers'. -/
def faultCoversCard : Claim7 := { stood := { row := faultCoversRow, standIns := [], harness := (true, "240d9369719ad4d7a5f55b84db90720bac7144021dd52851110ed07dcbfd0342"), looks := true }, kinds := [], alts := [], laidByText := true, laidKinds := [.data, .data, .data], laidTests := true, laidLooks := .later }
def FaultCoversCardSaid : Prop := Claim7.holds Tryz.pinned (.plain (OpenSpec.ofChange faultCoversSpec)) faultCoversCard

/-- THE TIED CARD OF 'sederuntlaw19.FaultThreshold'. -/
def faultThresholdCard : Claim7 := { stood := { row := faultThresholdRow, standIns := [], harness := (true, "240d9369719ad4d7a5f55b84db90720bac7144021dd52851110ed07dcbfd0342"), looks := true }, kinds := [], alts := [], laidByText := true, laidKinds := [.data, .data, .data], laidTests := true, laidLooks := .later }
def FaultThresholdCardSaid : Prop := Claim7.holds Tryz.pinned (.plain (OpenSpec.ofChange faultThresholdSpec)) faultThresholdCard

/-- THE TIED CARD OF 'sederuntlaw19.FaultNormalize'. -/
def faultNormalizeCard : Claim7 := { stood := { row := faultNormalizeRow, standIns := [], harness := (true, "240d9369719ad4d7a5f55b84db90720bac7144021dd52851110ed07dcbfd0342"), looks := true }, kinds := [], alts := [], laidByText := true, laidKinds := [.data, .data, .data], laidTests := true, laidLooks := .later }
def FaultNormalizeCardSaid : Prop := Claim7.holds Tryz.pinned (.plain (OpenSpec.ofChange faultNormalizeSpec)) faultNormalizeCard

/-- THE TIED CARD OF 'sederuntlaw19.FaultBoth'. -/
def faultBothCard : Claim7 := { stood := { row := faultBothRow, standIns := [], harness := (true, "240d9369719ad4d7a5f55b84db90720bac7144021dd52851110ed07dcbfd0342"), looks := true }, kinds := [], alts := [], laidByText := true, laidKinds := [.data, .data, .data], laidTests := true, laidLooks := .later }
def FaultBothCardSaid : Prop := Claim7.holds Tryz.pinned (.plain (OpenSpec.ofChange faultBothSpec)) faultBothCard

/-- THE TIED CARD OF 'sederuntlaw19.FaultAlgebra'. -/
def faultAlgebraCard : Claim7 := { stood := { row := faultAlgebraRow, standIns := [], harness := (true, "240d9369719ad4d7a5f55b84db90720bac7144021dd52851110ed07dcbfd0342"), looks := true }, kinds := [], alts := [], laidByText := true, laidKinds := [.data, .data, .data], laidTests := true, laidLooks := .later }
def FaultAlgebraCardSaid : Prop := Claim7.holds Tryz.pinned (.plain (OpenSpec.ofChange faultAlgebraSpec)) faultAlgebraCard

/-- THE TIED CARD OF 'sederuntlaw19.FaultSites'. -/
def faultSitesCard : Claim7 := { stood := { row := faultSitesRow, standIns := [], harness := (true, "240d9369719ad4d7a5f55b84db90720bac7144021dd52851110ed07dcbfd0342"), looks := true }, kinds := [], alts := [], laidByText := true, laidKinds := [.data, .data, .data], laidTests := true, laidLooks := .later }
def FaultSitesCardSaid : Prop := Claim7.holds Tryz.pinned (.plain (OpenSpec.ofChange faultSitesSpec)) faultSitesCard

/-- THE TIED CARD OF 'sederuntlaw19.FaultText'. -/
def faultTextCard : Claim7 := { stood := { row := faultTextRow, standIns := [], harness := (true, "240d9369719ad4d7a5f55b84db90720bac7144021dd52851110ed07dcbfd0342"), looks := true }, kinds := [], alts := [], laidByText := true, laidKinds := [.data, .data, .data, .data, .sentinel, .sentinel, .pinned], laidTests := true, laidLooks := .later }
def FaultTextCardSaid : Prop := Claim7.holds Tryz.pinned (.plain (OpenSpec.ofChange faultTextSpec)) faultTextCard

/-- THE TIED CARD OF 'sederuntlaw19.FaultParse'. -/
def faultParseCard : Claim7 := { stood := { row := faultParseRow, standIns := [], harness := (true, "240d9369719ad4d7a5f55b84db90720bac7144021dd52851110ed07dcbfd0342"), looks := true }, kinds := [], alts := [], laidByText := true, laidKinds := [.data, .data, .data, .data, .sentinel, .sentinel, .pinned], laidTests := true, laidLooks := .later }
def FaultParseCardSaid : Prop := Claim7.holds Tryz.pinned (.plain (OpenSpec.ofChange faultParseSpec)) faultParseCard

/-- THE SECOND FORM's CARD OF 'sederuntlaw19.FaultValid'. -/
def faultValidUptoCard : Claim7 := { stood := { row := faultValidUptoRow, standIns := [], harness := (true, "240d9369719ad4d7a5f55b84db90720bac7144021dd52851110ed07dcbfd0342"), looks := true }, kinds := [], alts := [], laidByText := true, laidKinds := [.data, .data, .data], laidTests := true, laidLooks := .later }
def FaultValidUptoCardSaid : Prop := Claim7.holds Tryz.pinned (.plain (OpenSpec.upto faultValidSpec)) faultValidUptoCard

/-- THE SECOND FORM's CARD OF 'sederuntlaw19.FaultCovers'. -/
def faultCoversUptoCard : Claim7 := { stood := { row := faultCoversUptoRow, standIns := [], harness := (true, "240d9369719ad4d7a5f55b84db90720bac7144021dd52851110ed07dcbfd0342"), looks := true }, kinds := [], alts := [], laidByText := true, laidKinds := [.data, .data, .data], laidTests := true, laidLooks := .later }
def FaultCoversUptoCardSaid : Prop := Claim7.holds Tryz.pinned (.plain (OpenSpec.upto faultCoversSpec)) faultCoversUptoCard

/-- THE SECOND FORM's CARD OF 'sederuntlaw19.FaultThreshold'. -/
def faultThresholdUptoCard : Claim7 := { stood := { row := faultThresholdUptoRow, standIns := [], harness := (true, "240d9369719ad4d7a5f55b84db90720bac7144021dd52851110ed07dcbfd0342"), looks := true }, kinds := [], alts := [], laidByText := true, laidKinds := [.data, .data, .data], laidTests := true, laidLooks := .later }
def FaultThresholdUptoCardSaid : Prop := Claim7.holds Tryz.pinned (.plain (OpenSpec.upto faultThresholdSpec)) faultThresholdUptoCard

/-- THE SECOND FORM's CARD OF 'sederuntlaw19.FaultNormalize'. -/
def faultNormalizeUptoCard : Claim7 := { stood := { row := faultNormalizeUptoRow, standIns := [], harness := (true, "240d9369719ad4d7a5f55b84db90720bac7144021dd52851110ed07dcbfd0342"), looks := true }, kinds := [], alts := [], laidByText := true, laidKinds := [.data, .data, .data], laidTests := true, laidLooks := .later }
def FaultNormalizeUptoCardSaid : Prop := Claim7.holds Tryz.pinned (.plain (OpenSpec.upto faultNormalizeSpec)) faultNormalizeUptoCard

/-- THE SECOND FORM's CARD OF 'sederuntlaw19.FaultBoth'. -/
def faultBothUptoCard : Claim7 := { stood := { row := faultBothUptoRow, standIns := [], harness := (true, "240d9369719ad4d7a5f55b84db90720bac7144021dd52851110ed07dcbfd0342"), looks := true }, kinds := [], alts := [], laidByText := true, laidKinds := [.data, .data, .data], laidTests := true, laidLooks := .later }
def FaultBothUptoCardSaid : Prop := Claim7.holds Tryz.pinned (.plain (OpenSpec.upto faultBothSpec)) faultBothUptoCard

/-- THE SECOND FORM's CARD OF 'sederuntlaw19.FaultAlgebra'. -/
def faultAlgebraUptoCard : Claim7 := { stood := { row := faultAlgebraUptoRow, standIns := [], harness := (true, "240d9369719ad4d7a5f55b84db90720bac7144021dd52851110ed07dcbfd0342"), looks := true }, kinds := [], alts := [], laidByText := true, laidKinds := [.data, .data, .data], laidTests := true, laidLooks := .later }
def FaultAlgebraUptoCardSaid : Prop := Claim7.holds Tryz.pinned (.plain (OpenSpec.upto faultAlgebraSpec)) faultAlgebraUptoCard

/-- THE SECOND FORM's CARD OF 'sederuntlaw19.FaultSites'. -/
def faultSitesUptoCard : Claim7 := { stood := { row := faultSitesUptoRow, standIns := [], harness := (true, "240d9369719ad4d7a5f55b84db90720bac7144021dd52851110ed07dcbfd0342"), looks := true }, kinds := [], alts := [], laidByText := true, laidKinds := [.data, .data, .data], laidTests := true, laidLooks := .later }
def FaultSitesUptoCardSaid : Prop := Claim7.holds Tryz.pinned (.plain (OpenSpec.upto faultSitesSpec)) faultSitesUptoCard

/-- THE SECOND FORM's CARD OF 'sederuntlaw19.FaultText'. -/
def faultTextUptoCard : Claim7 := { stood := { row := faultTextUptoRow, standIns := [], harness := (true, "240d9369719ad4d7a5f55b84db90720bac7144021dd52851110ed07dcbfd0342"), looks := true }, kinds := [], alts := [], laidByText := true, laidKinds := [.data, .data, .data, .data, .sentinel, .sentinel, .pinned], laidTests := true, laidLooks := .later }
def FaultTextUptoCardSaid : Prop := Claim7.holds Tryz.pinned (.plain (OpenSpec.upto faultTextSpec)) faultTextUptoCard

/-- THE SECOND FORM's CARD OF 'sederuntlaw19.FaultParse'. -/
def faultParseUptoCard : Claim7 := { stood := { row := faultParseUptoRow, standIns := [], harness := (true, "240d9369719ad4d7a5f55b84db90720bac7144021dd52851110ed07dcbfd0342"), looks := true }, kinds := [], alts := [], laidByText := true, laidKinds := [.data, .data, .data, .data, .sentinel, .sentinel, .pinned], laidTests := true, laidLooks := .later }
def FaultParseUptoCardSaid : Prop := Claim7.holds Tryz.pinned (.plain (OpenSpec.upto faultParseSpec)) faultParseUptoCard
end Rows
end Go.Proofs.YtmcmhjdmilgoeaaGreatDoor
