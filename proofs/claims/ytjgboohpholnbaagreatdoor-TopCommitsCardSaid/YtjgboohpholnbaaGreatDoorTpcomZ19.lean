/- Part 19 of the proof: SrtK. -/
import Derived.Test.YtjgboohpholnbaaGreatDoorTpcomZ18
import Derived.Shelf.GgSortFunc.InsertionK
namespace Go.Abs
open Go Go.RowKit Go.Sort Go.Proofs
end Go.Abs
