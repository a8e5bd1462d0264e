/-
  DERIVED. GIVEN WITH THE SEED: THE CARDS: each row of YtkeioaggjaeicaaGreatDoorRows.lean that lists a variable, with what it lists TIED to the program's text (the seventh form; the later family's looks); each row that meets fmt, with fmt's text TOLD by the authors' own Lean function (tested against real Go, not proved from fmt's source: count such statements apart). THE CARD IS WHAT COUNTS. Prove the row's statement (the work); the ties are given (YtkeioaggjaeicaaGreatDoorTie.lean); close each card by the builder's one call (the guide's Derived/Test/ToyasCard.lean, 'card_holds'). Laid BY PROGRAM, IN A SANDBOX (cutbox-door.mjs). By AI agents, Wed Nov 11 2026. No macro, syntax, notation, axiom, sorry.
-/
import Derived.Test.YtkeioaggjaeicaaGreatDoorRows
import GoSem.ClaimSeven
namespace Go.Proofs.YtkeioaggjaeicaaGreatDoor
namespace Rows

/-- THE TIED CARD OF 'sederuntlaw57.HistoryOrder'. -/
def historyOrderCard : Claim7 := { stood := { row := historyOrderRow, standIns := [], harness := (true, "4a8ca3dca58966a14c6e28901d6e4f0bfc66c44df7ae2ac94e164a05d59c330a"), looks := true }, kinds := [], alts := [], laidByText := true, laidKinds := [.data, .data, .data, .data, .pinned], laidTests := true, laidLooks := .later }
def HistoryOrderCardSaid : Prop := Claim7.holds Tryz.pinned (.plain (OpenSpec.ofChange historyOrderSpec)) historyOrderCard

/-- THE TIED CARD OF 'sederuntlaw57.HistoryPrefix'. -/
def historyPrefixCard : Claim7 := { stood := { row := historyPrefixRow, standIns := [], harness := (true, "4a8ca3dca58966a14c6e28901d6e4f0bfc66c44df7ae2ac94e164a05d59c330a"), looks := true }, kinds := [], alts := [], laidByText := true, laidKinds := [.data, .data, .data, .data, .pinned], laidTests := true, laidLooks := .later }
def HistoryPrefixCardSaid : Prop := Claim7.holds Tryz.pinned (.plain (OpenSpec.ofChange historyPrefixSpec)) historyPrefixCard

/-- THE TIED CARD OF 'sederuntlaw57.HistoryOne'. -/
def historyOneCard : Claim7 := { stood := { row := historyOneRow, standIns := [], harness := (true, "4a8ca3dca58966a14c6e28901d6e4f0bfc66c44df7ae2ac94e164a05d59c330a"), looks := true }, kinds := [], alts := [], laidByText := true, laidKinds := [.data, .data, .data, .data, .pinned], laidTests := true, laidLooks := .later }
def HistoryOneCardSaid : Prop := Claim7.holds Tryz.pinned (.plain (OpenSpec.ofChange historyOneSpec)) historyOneCard

/-- THE TIED CARD OF 'sederuntlaw57.HistoryWitness'. -/
def historyWitnessCard : Claim7 := { stood := { row := historyWitnessRow, standIns := [], harness := (true, "4a8ca3dca58966a14c6e28901d6e4f0bfc66c44df7ae2ac94e164a05d59c330a"), looks := true }, kinds := [], alts := [], laidByText := true, laidKinds := [.data, .data, .data, .data, .pinned], laidTests := true, laidLooks := .later }
def HistoryWitnessCardSaid : Prop := Claim7.holds Tryz.pinned (.plain (OpenSpec.ofChange historyWitnessSpec)) historyWitnessCard

/-- THE TIED CARD OF 'sederuntlaw57.HistoryCheck'. -/
def historyCheckCard : Claim7 := { stood := { row := historyCheckRow, standIns := [], harness := (true, "4a8ca3dca58966a14c6e28901d6e4f0bfc66c44df7ae2ac94e164a05d59c330a"), looks := true }, kinds := [], alts := [], laidByText := true, laidKinds := [.data, .data, .data, .data, .pinned], laidTests := true, laidLooks := .later }
def HistoryCheckCardSaid : Prop := Claim7.holds Tryz.pinned (.plain (OpenSpec.ofChange historyCheckSpec)) historyCheckCard

/-- THE TIED CARD OF 'sederuntlaw57.HistoryErrors'. -/
def historyErrorsCard : Claim7 := { stood := { row := historyErrorsRow, standIns := [], harness := (true, "4a8ca3dca58966a14c6e28901d6e4f0bfc66c44df7ae2ac94e164a05d59c330a"), looks := true }, kinds := [], alts := [], laidByText := true, laidKinds := [.data, .data, .data, .data, .sentinel, .sentinel, .pinned], laidTests := true, laidLooks := .later }
def HistoryErrorsCardSaid : Prop := Claim7.holds Tryz.pinned (.plain (OpenSpec.ofChange historyErrorsSpec)) historyErrorsCard

/-- THE SECOND FORM's CARD OF 'sederuntlaw57.HistoryOrder'. -/
def historyOrderUptoCard : Claim7 := { stood := { row := historyOrderUptoRow, standIns := [], harness := (true, "4a8ca3dca58966a14c6e28901d6e4f0bfc66c44df7ae2ac94e164a05d59c330a"), looks := true }, kinds := [], alts := [], laidByText := true, laidKinds := [.data, .data, .data, .data, .pinned], laidTests := true, laidLooks := .later }
def HistoryOrderUptoCardSaid : Prop := Claim7.holds Tryz.pinned (.plain (OpenSpec.upto historyOrderSpec)) historyOrderUptoCard

/-- THE SECOND FORM's CARD OF 'sederuntlaw57.HistoryPrefix'. -/
def historyPrefixUptoCard : Claim7 := { stood := { row := historyPrefixUptoRow, standIns := [], harness := (true, "4a8ca3dca58966a14c6e28901d6e4f0bfc66c44df7ae2ac94e164a05d59c330a"), looks := true }, kinds := [], alts := [], laidByText := true, laidKinds := [.data, .data, .data, .data, .pinned], laidTests := true, laidLooks := .later }
def HistoryPrefixUptoCardSaid : Prop := Claim7.holds Tryz.pinned (.plain (OpenSpec.upto historyPrefixSpec)) historyPrefixUptoCard

/-- THE SECOND FORM's CARD OF 'sederuntlaw57.HistoryOne'. -/
def historyOneUptoCard : Claim7 := { stood := { row := historyOneUptoRow, standIns := [], harness := (true, "4a8ca3dca58966a14c6e28901d6e4f0bfc66c44df7ae2ac94e164a05d59c330a"), looks := true }, kinds := [], alts := [], laidByText := true, laidKinds := [.data, .data, .data, .data, .pinned], laidTests := true, laidLooks := .later }
def HistoryOneUptoCardSaid : Prop := Claim7.holds Tryz.pinned (.plain (OpenSpec.upto historyOneSpec)) historyOneUptoCard

/-- THE SECOND FORM's CARD OF 'sederuntlaw57.HistoryWitness'. -/
def historyWitnessUptoCard : Claim7 := { stood := { row := historyWitnessUptoRow, standIns := [], harness := (true, "4a8ca3dca58966a14c6e28901d6e4f0bfc66c44df7ae2ac94e164a05d59c330a"), looks := true }, kinds := [], alts := [], laidByText := true, laidKinds := [.data, .data, .data, .data, .pinned], laidTests := true, laidLooks := .later }
def HistoryWitnessUptoCardSaid : Prop := Claim7.holds Tryz.pinned (.plain (OpenSpec.upto historyWitnessSpec)) historyWitnessUptoCard

/-- THE SECOND FORM's CARD OF 'sederuntlaw57.HistoryCheck'. -/
def historyCheckUptoCard : Claim7 := { stood := { row := historyCheckUptoRow, standIns := [], harness := (true, "4a8ca3dca58966a14c6e28901d6e4f0bfc66c44df7ae2ac94e164a05d59c330a"), looks := true }, kinds := [], alts := [], laidByText := true, laidKinds := [.data, .data, .data, .data, .pinned], laidTests := true, laidLooks := .later }
def HistoryCheckUptoCardSaid : Prop := Claim7.holds Tryz.pinned (.plain (OpenSpec.upto historyCheckSpec)) historyCheckUptoCard

/-- THE SECOND FORM's CARD OF 'sederuntlaw57.HistoryErrors'. -/
def historyErrorsUptoCard : Claim7 := { stood := { row := historyErrorsUptoRow, standIns := [], harness := (true, "4a8ca3dca58966a14c6e28901d6e4f0bfc66c44df7ae2ac94e164a05d59c330a"), looks := true }, kinds := [], alts := [], laidByText := true, laidKinds := [.data, .data, .data, .data, .sentinel, .sentinel, .pinned], laidTests := true, laidLooks := .later }
def HistoryErrorsUptoCardSaid : Prop := Claim7.holds Tryz.pinned (.plain (OpenSpec.upto historyErrorsSpec)) historyErrorsUptoCard
end Rows
end Go.Proofs.YtkeioaggjaeicaaGreatDoor
