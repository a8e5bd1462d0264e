/-
  DERIVED. GIVEN WITH THE SEED: THE CARDS: each row of YtncjecbhohcfoaaDoorRows.lean that lists a variable, with what it lists TIED to the program's text (the seventh form; the later family's looks); each row that meets fmt, with fmt's text TOLD by the authors' own Lean function (tested against real Go, not proved from fmt's source: count such statements apart). THE CARD IS WHAT COUNTS. Prove the row's statement (the work); the ties are given (YtncjecbhohcfoaaDoorTie.lean); close each card by the builder's one call (the guide's Derived/Test/ToyasCard.lean, 'card_holds'). Laid BY PROGRAM, IN A SANDBOX (cutbox-door.mjs). By AI agents, Wed Nov 11 2026. No macro, syntax, notation, axiom, sorry.
-/
import Derived.Test.YtncjecbhohcfoaaDoorRows
import GoSem.ClaimSeven
namespace Go.Proofs.YtncjecbhohcfoaaDoor
namespace Rows

/-- THE TIED CARD OF 'sederuntlaw08.FamilyValid'. -/
def familyValidCard : Claim7 := { stood := { row := familyValidRow, standIns := [], harness := (true, "ee22c9b8b94cfa17c7589b0415bb50cb31b97eab035ea132b679218cf8aa6acd"), looks := false }, kinds := [], alts := [], laidByText := true, laidKinds := [.data, .data, .data], laidTests := true, laidLooks := .later }
def FamilyValidCardSaid : Prop := Claim7.holds Tryd.pinned (.plain (OpenSpec.ofChange familyValidSpec)) familyValidCard

/-- THE TIED CARD OF 'sederuntlaw08.FamilyMinimal'. -/
def familyMinimalCard : Claim7 := { stood := { row := familyMinimalRow, standIns := [], harness := (true, "ee22c9b8b94cfa17c7589b0415bb50cb31b97eab035ea132b679218cf8aa6acd"), looks := false }, kinds := [], alts := [], laidByText := true, laidKinds := [.data, .data, .data], laidTests := true, laidLooks := .later }
def FamilyMinimalCardSaid : Prop := Claim7.holds Tryd.pinned (.plain (OpenSpec.ofChange familyMinimalSpec)) familyMinimalCard

/-- THE TIED CARD OF 'sederuntlaw08.FamilyJoined'. -/
def familyJoinedCard : Claim7 := { stood := { row := familyJoinedRow, standIns := [], harness := (true, "ee22c9b8b94cfa17c7589b0415bb50cb31b97eab035ea132b679218cf8aa6acd"), looks := false }, kinds := [], alts := [], laidByText := true, laidKinds := [.data, .data, .data], laidTests := true, laidLooks := .later }
def FamilyJoinedCardSaid : Prop := Claim7.holds Tryd.pinned (.plain (OpenSpec.ofChange familyJoinedSpec)) familyJoinedCard

/-- THE TIED CARD OF 'sederuntlaw08.FamilyGiven'. -/
def familyGivenCard : Claim7 := { stood := { row := familyGivenRow, standIns := [], harness := (true, "ee22c9b8b94cfa17c7589b0415bb50cb31b97eab035ea132b679218cf8aa6acd"), looks := false }, kinds := [], alts := [], laidByText := true, laidKinds := [.data, .data, .data], laidTests := true, laidLooks := .later }
def FamilyGivenCardSaid : Prop := Claim7.holds Tryd.pinned (.plain (OpenSpec.ofChange familyGivenSpec)) familyGivenCard

/-- THE TIED CARD OF 'sederuntlaw08.FamilyAlgebra'. -/
def familyAlgebraCard : Claim7 := { stood := { row := familyAlgebraRow, standIns := [], harness := (true, "ee22c9b8b94cfa17c7589b0415bb50cb31b97eab035ea132b679218cf8aa6acd"), looks := false }, kinds := [], alts := [], laidByText := true, laidKinds := [.data, .data, .data], laidTests := true, laidLooks := .later }
def FamilyAlgebraCardSaid : Prop := Claim7.holds Tryd.pinned (.plain (OpenSpec.ofChange familyAlgebraSpec)) familyAlgebraCard

/-- THE TIED CARD OF 'sederuntlaw08.FamilyAccepts'. -/
def familyAcceptsCard : Claim7 := { stood := { row := familyAcceptsRow, standIns := [], harness := (true, "ee22c9b8b94cfa17c7589b0415bb50cb31b97eab035ea132b679218cf8aa6acd"), looks := false }, kinds := [], alts := [], laidByText := true, laidKinds := [.data, .data, .data], laidTests := true, laidLooks := .later }
def FamilyAcceptsCardSaid : Prop := Claim7.holds Tryd.pinned (.plain (OpenSpec.ofChange familyAcceptsSpec)) familyAcceptsCard

/-- THE TIED CARD OF 'sederuntlaw08.FamilySearch'. -/
def familySearchCard : Claim7 := { stood := { row := familySearchRow, standIns := [], harness := (true, "ee22c9b8b94cfa17c7589b0415bb50cb31b97eab035ea132b679218cf8aa6acd"), looks := false }, kinds := [], alts := [], laidByText := true, laidKinds := [.data, .data, .data], laidTests := true, laidLooks := .later }
def FamilySearchCardSaid : Prop := Claim7.holds Tryd.pinned (.plain (OpenSpec.ofChange familySearchSpec)) familySearchCard

/-- THE SECOND FORM's CARD OF 'sederuntlaw08.FamilyValid'. -/
def familyValidUptoCard : Claim7 := { stood := { row := familyValidUptoRow, standIns := [], harness := (true, "ee22c9b8b94cfa17c7589b0415bb50cb31b97eab035ea132b679218cf8aa6acd"), looks := false }, kinds := [], alts := [], laidByText := true, laidKinds := [.data, .data, .data], laidTests := true, laidLooks := .later }
def FamilyValidUptoCardSaid : Prop := Claim7.holds Tryd.pinned (.plain (OpenSpec.upto familyValidSpec)) familyValidUptoCard

/-- THE SECOND FORM's CARD OF 'sederuntlaw08.FamilyMinimal'. -/
def familyMinimalUptoCard : Claim7 := { stood := { row := familyMinimalUptoRow, standIns := [], harness := (true, "ee22c9b8b94cfa17c7589b0415bb50cb31b97eab035ea132b679218cf8aa6acd"), looks := false }, kinds := [], alts := [], laidByText := true, laidKinds := [.data, .data, .data], laidTests := true, laidLooks := .later }
def FamilyMinimalUptoCardSaid : Prop := Claim7.holds Tryd.pinned (.plain (OpenSpec.upto familyMinimalSpec)) familyMinimalUptoCard

/-- THE SECOND FORM's CARD OF 'sederuntlaw08.FamilyJoined'. -/
def familyJoinedUptoCard : Claim7 := { stood := { row := familyJoinedUptoRow, standIns := [], harness := (true, "ee22c9b8b94cfa17c7589b0415bb50cb31b97eab035ea132b679218cf8aa6acd"), looks := false }, kinds := [], alts := [], laidByText := true, laidKinds := [.data, .data, .data], laidTests := true, laidLooks := .later }
def FamilyJoinedUptoCardSaid : Prop := Claim7.holds Tryd.pinned (.plain (OpenSpec.upto familyJoinedSpec)) familyJoinedUptoCard

/-- THE SECOND FORM's CARD OF 'sederuntlaw08.FamilyGiven'. -/
def familyGivenUptoCard : Claim7 := { stood := { row := familyGivenUptoRow, standIns := [], harness := (true, "ee22c9b8b94cfa17c7589b0415bb50cb31b97eab035ea132b679218cf8aa6acd"), looks := false }, kinds := [], alts := [], laidByText := true, laidKinds := [.data, .data, .data], laidTests := true, laidLooks := .later }
def FamilyGivenUptoCardSaid : Prop := Claim7.holds Tryd.pinned (.plain (OpenSpec.upto familyGivenSpec)) familyGivenUptoCard

/-- THE SECOND FORM's CARD OF 'sederuntlaw08.FamilyAlgebra'. -/
def familyAlgebraUptoCard : Claim7 := { stood := { row := familyAlgebraUptoRow, standIns := [], harness := (true, "ee22c9b8b94cfa17c7589b0415bb50cb31b97eab035ea132b679218cf8aa6acd"), looks := false }, kinds := [], alts := [], laidByText := true, laidKinds := [.data, .data, .data], laidTests := true, laidLooks := .later }
def FamilyAlgebraUptoCardSaid : Prop := Claim7.holds Tryd.pinned (.plain (OpenSpec.upto familyAlgebraSpec)) familyAlgebraUptoCard

/-- THE SECOND FORM's CARD OF 'sederuntlaw08.FamilyAccepts'. -/
def familyAcceptsUptoCard : Claim7 := { stood := { row := familyAcceptsUptoRow, standIns := [], harness := (true, "ee22c9b8b94cfa17c7589b0415bb50cb31b97eab035ea132b679218cf8aa6acd"), looks := false }, kinds := [], alts := [], laidByText := true, laidKinds := [.data, .data, .data], laidTests := true, laidLooks := .later }
def FamilyAcceptsUptoCardSaid : Prop := Claim7.holds Tryd.pinned (.plain (OpenSpec.upto familyAcceptsSpec)) familyAcceptsUptoCard

/-- THE SECOND FORM's CARD OF 'sederuntlaw08.FamilySearch'. -/
def familySearchUptoCard : Claim7 := { stood := { row := familySearchUptoRow, standIns := [], harness := (true, "ee22c9b8b94cfa17c7589b0415bb50cb31b97eab035ea132b679218cf8aa6acd"), looks := false }, kinds := [], alts := [], laidByText := true, laidKinds := [.data, .data, .data], laidTests := true, laidLooks := .later }
def FamilySearchUptoCardSaid : Prop := Claim7.holds Tryd.pinned (.plain (OpenSpec.upto familySearchSpec)) familySearchUptoCard
end Rows
end Go.Proofs.YtncjecbhohcfoaaDoor
