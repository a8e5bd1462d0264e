/-
  DERIVED. GIVEN WITH THE SEED: THE CARDS: each row of YtjgboohpholnbaaDoorRows.lean that lists a variable, with what it lists TIED to the program's text (the seventh form; the later family's looks); each row that meets fmt, with fmt's text TOLD by the authors' own Lean function (tested against real Go, not proved from fmt's source: count such statements apart). THE CARD IS WHAT COUNTS. Prove the row's statement (the work); the ties are given (YtjgboohpholnbaaDoorTie.lean); close each card by the builder's one call (the guide's Derived/Test/ToyasCard.lean, 'card_holds'). Laid BY PROGRAM, IN A SANDBOX (cutbox-door.mjs). By AI agents, Wed Nov 11 2026. No macro, syntax, notation, axiom, sorry.
-/
import Derived.Test.YtjgboohpholnbaaDoorRows
import GoSem.ClaimSeven
namespace Go.Proofs.YtjgboohpholnbaaDoor
namespace Rows

/-- THE TIED CARD OF 'sederunttop.TopAgain'. -/
def topAgainCard : Claim7 := { stood := { row := topAgainRow, standIns := [], harness := (true, "6beb0dc285def18a953e2dbc0865d7d7dbab448dda4a975f088c48fe7ccd37b9"), looks := false }, kinds := [], alts := [], laidByText := true, laidKinds := [.data], laidTests := true, laidLooks := .later }
def TopAgainCardSaid : Prop := Claim7.holds Tryd.pinned (.plain (OpenSpec.ofChange topAgainSpec)) topAgainCard

/-- THE TIED CARD OF 'sederunttop.TopMajorities'. -/
def topMajoritiesCard : Claim7 := { stood := { row := topMajoritiesRow, standIns := [], harness := (true, "6beb0dc285def18a953e2dbc0865d7d7dbab448dda4a975f088c48fe7ccd37b9"), looks := false }, kinds := [], alts := [], laidByText := true, laidKinds := [.data], laidTests := true, laidLooks := .later }
def TopMajoritiesCardSaid : Prop := Claim7.holds Tryd.pinned (.plain (OpenSpec.ofChange topMajoritiesSpec)) topMajoritiesCard

/-- THE TIED CARD OF 'sederunttop.TopCoteries'. -/
def topCoteriesCard : Claim7 := { stood := { row := topCoteriesRow, standIns := [], harness := (true, "6beb0dc285def18a953e2dbc0865d7d7dbab448dda4a975f088c48fe7ccd37b9"), looks := false }, kinds := [], alts := [], laidByText := true, laidKinds := [.data], laidTests := true, laidLooks := .later }
def TopCoteriesCardSaid : Prop := Claim7.holds Tryd.pinned (.plain (OpenSpec.ofChange topCoteriesSpec)) topCoteriesCard

/-- THE SECOND FORM's CARD OF 'sederunttop.TopAgain'. -/
def topAgainUptoCard : Claim7 := { stood := { row := topAgainUptoRow, standIns := [], harness := (true, "6beb0dc285def18a953e2dbc0865d7d7dbab448dda4a975f088c48fe7ccd37b9"), looks := false }, kinds := [], alts := [], laidByText := true, laidKinds := [.data], laidTests := true, laidLooks := .later }
def TopAgainUptoCardSaid : Prop := Claim7.holds Tryd.pinned (.plain (OpenSpec.upto topAgainSpec)) topAgainUptoCard

/-- THE SECOND FORM's CARD OF 'sederunttop.TopMajorities'. -/
def topMajoritiesUptoCard : Claim7 := { stood := { row := topMajoritiesUptoRow, standIns := [], harness := (true, "6beb0dc285def18a953e2dbc0865d7d7dbab448dda4a975f088c48fe7ccd37b9"), looks := false }, kinds := [], alts := [], laidByText := true, laidKinds := [.data], laidTests := true, laidLooks := .later }
def TopMajoritiesUptoCardSaid : Prop := Claim7.holds Tryd.pinned (.plain (OpenSpec.upto topMajoritiesSpec)) topMajoritiesUptoCard

/-- THE SECOND FORM's CARD OF 'sederunttop.TopCoteries'. -/
def topCoteriesUptoCard : Claim7 := { stood := { row := topCoteriesUptoRow, standIns := [], harness := (true, "6beb0dc285def18a953e2dbc0865d7d7dbab448dda4a975f088c48fe7ccd37b9"), looks := false }, kinds := [], alts := [], laidByText := true, laidKinds := [.data], laidTests := true, laidLooks := .later }
def TopCoteriesUptoCardSaid : Prop := Claim7.holds Tryd.pinned (.plain (OpenSpec.upto topCoteriesSpec)) topCoteriesUptoCard
end Rows
end Go.Proofs.YtjgboohpholnbaaDoor
