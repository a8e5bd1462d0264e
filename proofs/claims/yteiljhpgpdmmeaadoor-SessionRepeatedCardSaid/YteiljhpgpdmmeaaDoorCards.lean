/-
  DERIVED. GIVEN WITH THE SEED: THE CARDS: each row of YteiljhpgpdmmeaaDoorRows.lean that lists a variable, with what it lists TIED to the program's text (the seventh form; the later family's looks); each row that meets fmt, with fmt's text TOLD by the authors' own Lean function (tested against real Go, not proved from fmt's source: count such statements apart). THE CARD IS WHAT COUNTS. Prove the row's statement (the work); the ties are given (YteiljhpgpdmmeaaDoorTie.lean); close each card by the builder's one call (the guide's Derived/Test/ToyasCard.lean, 'card_holds'). Laid BY PROGRAM, IN A SANDBOX (cutbox-door.mjs). By AI agents, Wed Nov 11 2026. No macro, syntax, notation, axiom, sorry.
-/
import Derived.Test.YteiljhpgpdmmeaaDoorRows
import GoSem.ClaimSeven
namespace Go.Proofs.YteiljhpgpdmmeaaDoor
namespace Rows

/-- THE TIED CARD OF 'sederuntlaw49.SessionRepeated'. -/
def sessionRepeatedCard : Claim7 := { stood := { row := sessionRepeatedRow, standIns := [], harness := (true, "201961833e9fe190447f3b728625b1ecd7234bd3e90afecf9c7af7c43cd1b371"), looks := false }, kinds := [], alts := [], laidByText := true, laidKinds := [.data, .data, .data, .data, .pinned], laidTests := true, laidLooks := .later }
def SessionRepeatedCardSaid : Prop := Claim7.holds Tryd.pinned (.plain (OpenSpec.ofChange sessionRepeatedSpec)) sessionRepeatedCard

/-- THE SECOND FORM's CARD OF 'sederuntlaw49.SessionRepeated'. -/
def sessionRepeatedUptoCard : Claim7 := { stood := { row := sessionRepeatedUptoRow, standIns := [], harness := (true, "201961833e9fe190447f3b728625b1ecd7234bd3e90afecf9c7af7c43cd1b371"), looks := false }, kinds := [], alts := [], laidByText := true, laidKinds := [.data, .data, .data, .data, .pinned], laidTests := true, laidLooks := .later }
def SessionRepeatedUptoCardSaid : Prop := Claim7.holds Tryd.pinned (.plain (OpenSpec.upto sessionRepeatedSpec)) sessionRepeatedUptoCard
end Rows
end Go.Proofs.YteiljhpgpdmmeaaDoor
