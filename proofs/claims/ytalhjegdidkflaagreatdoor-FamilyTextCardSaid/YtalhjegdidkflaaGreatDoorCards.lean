/-
  DERIVED. GIVEN WITH THE SEED: THE CARDS: each row of YtalhjegdidkflaaGreatDoorRows.lean that lists a variable, with what it lists TIED to the program's text (the seventh form; the later family's looks); each row that meets fmt, with fmt's text TOLD by the authors' own Lean function (tested against real Go, not proved from fmt's source: count such statements apart). THE CARD IS WHAT COUNTS. Prove the row's statement (the work); the ties are given (YtalhjegdidkflaaGreatDoorTie.lean); close each card by the builder's one call (the guide's Derived/Test/ToyasCard.lean, 'card_holds'). Laid BY PROGRAM, IN A SANDBOX (cutbox-door.mjs). By AI agents, Wed Nov 11 2026. No macro, syntax, notation, axiom, sorry.
-/
import Derived.Test.YtalhjegdidkflaaGreatDoorRows
import GoSem.ClaimSeven
namespace Go.Proofs.YtalhjegdidkflaaGreatDoor
namespace Rows

/-- THE TIED CARD OF 'sederuntlaw08.FamilyText'. -/
def familyTextCard : Claim7 := { stood := { row := familyTextRow, standIns := [], harness := (true, "5878b92c3de90337ae66fff45b33421d08d5cacd118352c089337a270ec0ff96"), looks := true }, kinds := [], alts := [], laidByText := true, laidKinds := [.data, .data, .data, .sentinel, .sentinel], laidTests := true, laidLooks := .later }
def FamilyTextCardSaid : Prop := Claim7.holds Tryz.pinned (.plain (OpenSpec.ofChange familyTextSpec)) familyTextCard

/-- THE SECOND FORM's CARD OF 'sederuntlaw08.FamilyText'. -/
def familyTextUptoCard : Claim7 := { stood := { row := familyTextUptoRow, standIns := [], harness := (true, "5878b92c3de90337ae66fff45b33421d08d5cacd118352c089337a270ec0ff96"), looks := true }, kinds := [], alts := [], laidByText := true, laidKinds := [.data, .data, .data, .sentinel, .sentinel], laidTests := true, laidLooks := .later }
def FamilyTextUptoCardSaid : Prop := Claim7.holds Tryz.pinned (.plain (OpenSpec.upto familyTextSpec)) familyTextUptoCard
end Rows
end Go.Proofs.YtalhjegdidkflaaGreatDoor
