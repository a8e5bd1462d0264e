/-
  DERIVED. GIVEN WITH THE SEED: THE CARDS: each row of YteiljhpgpdmmeaaGreatDoorRows.lean that lists a variable, with what it lists TIED to the program's text (the seventh form; the later family's looks); each row that meets fmt, with fmt's text TOLD by the authors' own Lean function (tested against real Go, not proved from fmt's source: count such statements apart). THE CARD IS WHAT COUNTS. Prove the row's statement (the work); the ties are given (YteiljhpgpdmmeaaGreatDoorTie.lean); close each card by the builder's one call (the guide's Derived/Test/ToyasCard.lean, 'card_holds'). Laid BY PROGRAM, IN A SANDBOX (cutbox-door.mjs). By AI agents, Wed Nov 11 2026. No macro, syntax, notation, axiom, sorry.
-/
import Derived.Test.YteiljhpgpdmmeaaGreatDoorRows
import GoSem.ClaimSeven
namespace Go.Proofs.YteiljhpgpdmmeaaGreatDoor
namespace Rows

/-- THE TIED CARD OF 'sederuntlaw49.SessionOnce'. -/
def sessionOnceCard : Claim7 := { stood := { row := sessionOnceRow, standIns := [], harness := (true, "89677329c1387d69cb454c3b0ebff06bc3c178d80e49c2b83945a836d296db16"), looks := true }, kinds := [], alts := [], laidByText := true, laidKinds := [.data, .data, .data, .data, .pinned], laidTests := true, laidLooks := .later }
def SessionOnceCardSaid : Prop := Claim7.holds Tryz.pinned (.plain (OpenSpec.ofChange sessionOnceSpec)) sessionOnceCard

/-- THE TIED CARD OF 'sederuntlaw49.SessionApply'. -/
def sessionApplyCard : Claim7 := { stood := { row := sessionApplyRow, standIns := [], harness := (true, "89677329c1387d69cb454c3b0ebff06bc3c178d80e49c2b83945a836d296db16"), looks := true }, kinds := [], alts := [], laidByText := true, laidKinds := [.data, .data, .data, .data, .pinned], laidTests := true, laidLooks := .later }
def SessionApplyCardSaid : Prop := Claim7.holds Tryz.pinned (.plain (OpenSpec.ofChange sessionApplySpec)) sessionApplyCard

/-- THE TIED CARD OF 'sederuntlaw49.SessionResult'. -/
def sessionResultCard : Claim7 := { stood := { row := sessionResultRow, standIns := [], harness := (true, "89677329c1387d69cb454c3b0ebff06bc3c178d80e49c2b83945a836d296db16"), looks := true }, kinds := [], alts := [], laidByText := true, laidKinds := [.data, .data, .data, .data, .pinned], laidTests := true, laidLooks := .later }
def SessionResultCardSaid : Prop := Claim7.holds Tryz.pinned (.plain (OpenSpec.ofChange sessionResultSpec)) sessionResultCard

/-- THE TIED CARD OF 'sederuntlaw49.SessionRestore'. -/
def sessionRestoreCard : Claim7 := { stood := { row := sessionRestoreRow, standIns := [], harness := (true, "89677329c1387d69cb454c3b0ebff06bc3c178d80e49c2b83945a836d296db16"), looks := true }, kinds := [], alts := [], laidByText := true, laidKinds := [.data, .data, .data, .data, .sentinel, .sentinel, .pinned], laidTests := true, laidLooks := .later }
def SessionRestoreCardSaid : Prop := Claim7.holds Tryz.pinned (.plain (OpenSpec.ofChange sessionRestoreSpec)) sessionRestoreCard

/-- THE TIED CARD OF 'sederuntlaw49.SessionEntry'. -/
def sessionEntryCard : Claim7 := { stood := { row := sessionEntryRow, standIns := [], harness := (true, "89677329c1387d69cb454c3b0ebff06bc3c178d80e49c2b83945a836d296db16"), looks := true }, kinds := [], alts := [], laidByText := true, laidKinds := [.data, .data, .data, .data, .sentinel, .sentinel, .pinned], laidTests := true, laidLooks := .later }
def SessionEntryCardSaid : Prop := Claim7.holds Tryz.pinned (.plain (OpenSpec.ofChange sessionEntrySpec)) sessionEntryCard

/-- THE TIED CARD OF 'sederuntlaw49.SessionRun'. -/
def sessionRunCard : Claim7 := { stood := { row := sessionRunRow, standIns := [], harness := (true, "89677329c1387d69cb454c3b0ebff06bc3c178d80e49c2b83945a836d296db16"), looks := true }, kinds := [], alts := [], laidByText := true, laidKinds := [.data, .data, .data, .data, .sentinel, .sentinel, .pinned], laidTests := true, laidLooks := .later }
def SessionRunCardSaid : Prop := Claim7.holds Tryz.pinned (.plain (OpenSpec.ofChange sessionRunSpec)) sessionRunCard

/-- THE SECOND FORM's CARD OF 'sederuntlaw49.SessionOnce'. -/
def sessionOnceUptoCard : Claim7 := { stood := { row := sessionOnceUptoRow, standIns := [], harness := (true, "89677329c1387d69cb454c3b0ebff06bc3c178d80e49c2b83945a836d296db16"), looks := true }, kinds := [], alts := [], laidByText := true, laidKinds := [.data, .data, .data, .data, .pinned], laidTests := true, laidLooks := .later }
def SessionOnceUptoCardSaid : Prop := Claim7.holds Tryz.pinned (.plain (OpenSpec.upto sessionOnceSpec)) sessionOnceUptoCard

/-- THE SECOND FORM's CARD OF 'sederuntlaw49.SessionApply'. -/
def sessionApplyUptoCard : Claim7 := { stood := { row := sessionApplyUptoRow, standIns := [], harness := (true, "89677329c1387d69cb454c3b0ebff06bc3c178d80e49c2b83945a836d296db16"), looks := true }, kinds := [], alts := [], laidByText := true, laidKinds := [.data, .data, .data, .data, .pinned], laidTests := true, laidLooks := .later }
def SessionApplyUptoCardSaid : Prop := Claim7.holds Tryz.pinned (.plain (OpenSpec.upto sessionApplySpec)) sessionApplyUptoCard

/-- THE SECOND FORM's CARD OF 'sederuntlaw49.SessionResult'. -/
def sessionResultUptoCard : Claim7 := { stood := { row := sessionResultUptoRow, standIns := [], harness := (true, "89677329c1387d69cb454c3b0ebff06bc3c178d80e49c2b83945a836d296db16"), looks := true }, kinds := [], alts := [], laidByText := true, laidKinds := [.data, .data, .data, .data, .pinned], laidTests := true, laidLooks := .later }
def SessionResultUptoCardSaid : Prop := Claim7.holds Tryz.pinned (.plain (OpenSpec.upto sessionResultSpec)) sessionResultUptoCard

/-- THE SECOND FORM's CARD OF 'sederuntlaw49.SessionRestore'. -/
def sessionRestoreUptoCard : Claim7 := { stood := { row := sessionRestoreUptoRow, standIns := [], harness := (true, "89677329c1387d69cb454c3b0ebff06bc3c178d80e49c2b83945a836d296db16"), looks := true }, kinds := [], alts := [], laidByText := true, laidKinds := [.data, .data, .data, .data, .sentinel, .sentinel, .pinned], laidTests := true, laidLooks := .later }
def SessionRestoreUptoCardSaid : Prop := Claim7.holds Tryz.pinned (.plain (OpenSpec.upto sessionRestoreSpec)) sessionRestoreUptoCard

/-- THE SECOND FORM's CARD OF 'sederuntlaw49.SessionEntry'. -/
def sessionEntryUptoCard : Claim7 := { stood := { row := sessionEntryUptoRow, standIns := [], harness := (true, "89677329c1387d69cb454c3b0ebff06bc3c178d80e49c2b83945a836d296db16"), looks := true }, kinds := [], alts := [], laidByText := true, laidKinds := [.data, .data, .data, .data, .sentinel, .sentinel, .pinned], laidTests := true, laidLooks := .later }
def SessionEntryUptoCardSaid : Prop := Claim7.holds Tryz.pinned (.plain (OpenSpec.upto sessionEntrySpec)) sessionEntryUptoCard

/-- THE SECOND FORM's CARD OF 'sederuntlaw49.SessionRun'. -/
def sessionRunUptoCard : Claim7 := { stood := { row := sessionRunUptoRow, standIns := [], harness := (true, "89677329c1387d69cb454c3b0ebff06bc3c178d80e49c2b83945a836d296db16"), looks := true }, kinds := [], alts := [], laidByText := true, laidKinds := [.data, .data, .data, .data, .sentinel, .sentinel, .pinned], laidTests := true, laidLooks := .later }
def SessionRunUptoCardSaid : Prop := Claim7.holds Tryz.pinned (.plain (OpenSpec.upto sessionRunSpec)) sessionRunUptoCard
end Rows
end Go.Proofs.YteiljhpgpdmmeaaGreatDoor
