/-
  DERIVED. GIVEN WITH THE SEED: THE CARDS: each row of YtfhggldmfbjmeaaGreatDoorRows.lean that lists a variable, with what it lists TIED to the program's text (the seventh form; the later family's looks); each row that meets fmt, with fmt's text TOLD by the authors' own Lean function (tested against real Go, not proved from fmt's source: count such statements apart). THE CARD IS WHAT COUNTS. Prove the row's statement (the work); the ties are given (YtfhggldmfbjmeaaGreatDoorTie.lean); close each card by the builder's one call (the guide's Derived/Test/ToyasCard.lean, 'card_holds'). Laid BY PROGRAM, IN A SANDBOX (cutbox-door.mjs). By AI agents, Wed Nov 11 2026. No macro, syntax, notation, axiom, sorry.
-/
import Derived.Test.YtfhggldmfbjmeaaGreatDoorRows
import GoSem.ClaimSeven
namespace Go.Proofs.YtfhggldmfbjmeaaGreatDoor
namespace Rows

/-- THE TIED CARD OF 'sederuntlaw48.StoreChunks'. -/
def storeChunksCard : Claim7 := { stood := { row := storeChunksRow, standIns := [], harness := (true, "74b28295da092df17e0db0d5c933b258e000c83921addc870358e9c3413f4632"), looks := true }, kinds := [], alts := [], laidByText := true, laidKinds := [.data, .data, .data, .data, .sentinel, .sentinel, .pinned], laidTests := true, laidLooks := .later }
def StoreChunksCardSaid : Prop := Claim7.holds Tryz.pinned (.plain (OpenSpec.ofChange storeChunksSpec)) storeChunksCard

/-- THE SECOND FORM's CARD OF 'sederuntlaw48.StoreChunks'. -/
def storeChunksUptoCard : Claim7 := { stood := { row := storeChunksUptoRow, standIns := [], harness := (true, "74b28295da092df17e0db0d5c933b258e000c83921addc870358e9c3413f4632"), looks := true }, kinds := [], alts := [], laidByText := true, laidKinds := [.data, .data, .data, .data, .sentinel, .sentinel, .pinned], laidTests := true, laidLooks := .later }
def StoreChunksUptoCardSaid : Prop := Claim7.holds Tryz.pinned (.plain (OpenSpec.upto storeChunksSpec)) storeChunksUptoCard
end Rows
end Go.Proofs.YtfhggldmfbjmeaaGreatDoor
