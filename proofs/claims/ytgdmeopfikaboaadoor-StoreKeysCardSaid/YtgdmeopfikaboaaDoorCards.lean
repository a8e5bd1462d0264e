/-
  DERIVED. GIVEN WITH THE SEED: THE CARDS: each row of YtgdmeopfikaboaaDoorRows.lean that lists a variable, with what it lists TIED to the program's text (the seventh form; the later family's looks); each row that meets fmt, with fmt's text TOLD by the authors' own Lean function (tested against real Go, not proved from fmt's source: count such statements apart). THE CARD IS WHAT COUNTS. Prove the row's statement (the work); the ties are given (YtgdmeopfikaboaaDoorTie.lean); close each card by the builder's one call (the guide's Derived/Test/ToyasCard.lean, 'card_holds'). Laid BY PROGRAM, IN A SANDBOX (cutbox-door.mjs). By AI agents, Wed Nov 11 2026. No macro, syntax, notation, axiom, sorry.
-/
import Derived.Test.YtgdmeopfikaboaaDoorRows
import GoSem.ClaimSeven
namespace Go.Proofs.YtgdmeopfikaboaaDoor
namespace Rows

/-- THE TIED CARD OF 'sederuntlaw48.StoreParse'. -/
def storeParseCard : Claim7 := { stood := { row := storeParseRow, standIns := [], harness := (true, "ef2a483833510e406d8686cdb807ae57eabe03a462245ac558d2c9babf5b3488"), looks := false }, kinds := [], alts := [], laidByText := true, laidKinds := [.data, .data, .data, .data, .pinned], laidTests := true, laidLooks := .later }
def StoreParseCardSaid : Prop := Claim7.holds Tryd.pinned (.plain (OpenSpec.ofChange storeParseSpec)) storeParseCard

/-- THE TIED CARD OF 'sederuntlaw48.StoreAny'. -/
def storeAnyCard : Claim7 := { stood := { row := storeAnyRow, standIns := [], harness := (true, "ef2a483833510e406d8686cdb807ae57eabe03a462245ac558d2c9babf5b3488"), looks := false }, kinds := [], alts := [], laidByText := true, laidKinds := [.data, .data, .data, .data, .pinned], laidTests := true, laidLooks := .later }
def StoreAnyCardSaid : Prop := Claim7.holds Tryd.pinned (.plain (OpenSpec.ofChange storeAnySpec)) storeAnyCard

/-- THE TIED CARD OF 'sederuntlaw48.StoreScript'. -/
def storeScriptCard : Claim7 := { stood := { row := storeScriptRow, standIns := [], harness := (true, "ef2a483833510e406d8686cdb807ae57eabe03a462245ac558d2c9babf5b3488"), looks := false }, kinds := [], alts := [], laidByText := true, laidKinds := [.data, .data, .data, .data, .pinned], laidTests := true, laidLooks := .later }
def StoreScriptCardSaid : Prop := Claim7.holds Tryd.pinned (.plain (OpenSpec.ofChange storeScriptSpec)) storeScriptCard

/-- THE TIED CARD OF 'sederuntlaw48.StoreKeys'. -/
def storeKeysCard : Claim7 := { stood := { row := storeKeysRow, standIns := [], harness := (true, "ef2a483833510e406d8686cdb807ae57eabe03a462245ac558d2c9babf5b3488"), looks := false }, kinds := [], alts := [], laidByText := true, laidKinds := [.data, .data, .data, .data, .pinned], laidTests := true, laidLooks := .later }
def StoreKeysCardSaid : Prop := Claim7.holds Tryd.pinned (.plain (OpenSpec.ofChange storeKeysSpec)) storeKeysCard

/-- THE TIED CARD OF 'sederuntlaw48.StoreFormat'. -/
def storeFormatCard : Claim7 := { stood := { row := storeFormatRow, standIns := [], harness := (true, "ef2a483833510e406d8686cdb807ae57eabe03a462245ac558d2c9babf5b3488"), looks := false }, kinds := [], alts := [], laidByText := true, laidKinds := [.data, .data, .data, .data, .pinned], laidTests := true, laidLooks := .later }
def StoreFormatCardSaid : Prop := Claim7.holds Tryd.pinned (.plain (OpenSpec.ofChange storeFormatSpec)) storeFormatCard

/-- THE TIED CARD OF 'sederuntlaw48.StoreExecute'. -/
def storeExecuteCard : Claim7 := { stood := { row := storeExecuteRow, standIns := [], harness := (true, "ef2a483833510e406d8686cdb807ae57eabe03a462245ac558d2c9babf5b3488"), looks := false }, kinds := [], alts := [], laidByText := true, laidKinds := [.data, .data, .data, .data, .pinned], laidTests := true, laidLooks := .later }
def StoreExecuteCardSaid : Prop := Claim7.holds Tryd.pinned (.plain (OpenSpec.ofChange storeExecuteSpec)) storeExecuteCard

/-- THE TIED CARD OF 'sederuntlaw48.StoreDiff'. -/
def storeDiffCard : Claim7 := { stood := { row := storeDiffRow, standIns := [], harness := (true, "ef2a483833510e406d8686cdb807ae57eabe03a462245ac558d2c9babf5b3488"), looks := false }, kinds := [], alts := [], laidByText := true, laidKinds := [.data, .data, .data, .data, .pinned], laidTests := true, laidLooks := .later }
def StoreDiffCardSaid : Prop := Claim7.holds Tryd.pinned (.plain (OpenSpec.ofChange storeDiffSpec)) storeDiffCard

/-- THE SECOND FORM's CARD OF 'sederuntlaw48.StoreParse'. -/
def storeParseUptoCard : Claim7 := { stood := { row := storeParseUptoRow, standIns := [], harness := (true, "ef2a483833510e406d8686cdb807ae57eabe03a462245ac558d2c9babf5b3488"), looks := false }, kinds := [], alts := [], laidByText := true, laidKinds := [.data, .data, .data, .data, .pinned], laidTests := true, laidLooks := .later }
def StoreParseUptoCardSaid : Prop := Claim7.holds Tryd.pinned (.plain (OpenSpec.upto storeParseSpec)) storeParseUptoCard

/-- THE SECOND FORM's CARD OF 'sederuntlaw48.StoreAny'. -/
def storeAnyUptoCard : Claim7 := { stood := { row := storeAnyUptoRow, standIns := [], harness := (true, "ef2a483833510e406d8686cdb807ae57eabe03a462245ac558d2c9babf5b3488"), looks := false }, kinds := [], alts := [], laidByText := true, laidKinds := [.data, .data, .data, .data, .pinned], laidTests := true, laidLooks := .later }
def StoreAnyUptoCardSaid : Prop := Claim7.holds Tryd.pinned (.plain (OpenSpec.upto storeAnySpec)) storeAnyUptoCard

/-- THE SECOND FORM's CARD OF 'sederuntlaw48.StoreScript'. -/
def storeScriptUptoCard : Claim7 := { stood := { row := storeScriptUptoRow, standIns := [], harness := (true, "ef2a483833510e406d8686cdb807ae57eabe03a462245ac558d2c9babf5b3488"), looks := false }, kinds := [], alts := [], laidByText := true, laidKinds := [.data, .data, .data, .data, .pinned], laidTests := true, laidLooks := .later }
def StoreScriptUptoCardSaid : Prop := Claim7.holds Tryd.pinned (.plain (OpenSpec.upto storeScriptSpec)) storeScriptUptoCard

/-- THE SECOND FORM's CARD OF 'sederuntlaw48.StoreKeys'. -/
def storeKeysUptoCard : Claim7 := { stood := { row := storeKeysUptoRow, standIns := [], harness := (true, "ef2a483833510e406d8686cdb807ae57eabe03a462245ac558d2c9babf5b3488"), looks := false }, kinds := [], alts := [], laidByText := true, laidKinds := [.data, .data, .data, .data, .pinned], laidTests := true, laidLooks := .later }
def StoreKeysUptoCardSaid : Prop := Claim7.holds Tryd.pinned (.plain (OpenSpec.upto storeKeysSpec)) storeKeysUptoCard

/-- THE SECOND FORM's CARD OF 'sederuntlaw48.StoreFormat'. -/
def storeFormatUptoCard : Claim7 := { stood := { row := storeFormatUptoRow, standIns := [], harness := (true, "ef2a483833510e406d8686cdb807ae57eabe03a462245ac558d2c9babf5b3488"), looks := false }, kinds := [], alts := [], laidByText := true, laidKinds := [.data, .data, .data, .data, .pinned], laidTests := true, laidLooks := .later }
def StoreFormatUptoCardSaid : Prop := Claim7.holds Tryd.pinned (.plain (OpenSpec.upto storeFormatSpec)) storeFormatUptoCard

/-- THE SECOND FORM's CARD OF 'sederuntlaw48.StoreExecute'. -/
def storeExecuteUptoCard : Claim7 := { stood := { row := storeExecuteUptoRow, standIns := [], harness := (true, "ef2a483833510e406d8686cdb807ae57eabe03a462245ac558d2c9babf5b3488"), looks := false }, kinds := [], alts := [], laidByText := true, laidKinds := [.data, .data, .data, .data, .pinned], laidTests := true, laidLooks := .later }
def StoreExecuteUptoCardSaid : Prop := Claim7.holds Tryd.pinned (.plain (OpenSpec.upto storeExecuteSpec)) storeExecuteUptoCard

/-- THE SECOND FORM's CARD OF 'sederuntlaw48.StoreDiff'. -/
def storeDiffUptoCard : Claim7 := { stood := { row := storeDiffUptoRow, standIns := [], harness := (true, "ef2a483833510e406d8686cdb807ae57eabe03a462245ac558d2c9babf5b3488"), looks := false }, kinds := [], alts := [], laidByText := true, laidKinds := [.data, .data, .data, .data, .pinned], laidTests := true, laidLooks := .later }
def StoreDiffUptoCardSaid : Prop := Claim7.holds Tryd.pinned (.plain (OpenSpec.upto storeDiffSpec)) storeDiffUptoCard
end Rows
end Go.Proofs.YtgdmeopfikaboaaDoor
