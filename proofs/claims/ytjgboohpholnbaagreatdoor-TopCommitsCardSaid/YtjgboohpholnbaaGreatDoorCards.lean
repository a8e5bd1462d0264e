/-
  DERIVED. GIVEN WITH THE SEED: THE CARDS: each row of YtjgboohpholnbaaGreatDoorRows.lean that lists a variable, with what it lists TIED to the program's text (the seventh form; the later family's looks); each row that meets fmt, with fmt's text TOLD by the authors' own Lean function (tested against real Go, not proved from fmt's source: count such statements apart). THE CARD IS WHAT COUNTS. Prove the row's statement (the work); the ties are given (YtjgboohpholnbaaGreatDoorTie.lean); close each card by the builder's one call (the guide's Derived/Test/ToyasCard.lean, 'card_holds'). Laid BY PROGRAM, IN A SANDBOX (cutbox-door.mjs). By AI agents, Wed Nov 11 2026. No macro, syntax, notation, axiom, sorry.
-/
import Derived.Test.YtjgboohpholnbaaGreatDoorRows
import GoSem.ClaimSeven
namespace Go.Proofs.YtjgboohpholnbaaGreatDoor
namespace Rows

/-- THE TIED CARD OF 'sederunttop.TopCommits'. -/
def topCommitsCard : Claim7 := { stood := { row := topCommitsRow, standIns := [], harness := (true, "6e0a675e22bec10ac7f89f0674c739cea057e242df865354606eee3163a517d1"), looks := false }, kinds := [], alts := [], laidByText := true, laidKinds := [.data], laidTests := true, laidLooks := .later }
def TopCommitsCardSaid : Prop := Claim7.holds Tryz.pinned (.plain (OpenSpec.ofChange topCommitsSpec)) topCommitsCard

/-- THE SECOND FORM's CARD OF 'sederunttop.TopCommits'. -/
def topCommitsUptoCard : Claim7 := { stood := { row := topCommitsUptoRow, standIns := [], harness := (true, "6e0a675e22bec10ac7f89f0674c739cea057e242df865354606eee3163a517d1"), looks := false }, kinds := [], alts := [], laidByText := true, laidKinds := [.data], laidTests := true, laidLooks := .later }
def TopCommitsUptoCardSaid : Prop := Claim7.holds Tryz.pinned (.plain (OpenSpec.upto topCommitsSpec)) topCommitsUptoCard
end Rows
end Go.Proofs.YtjgboohpholnbaaGreatDoor
