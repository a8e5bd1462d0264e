/- Part 26 of the proof: SrtK. -/
import Derived.Test.YtalhjegdidkflaaGreatDoorFamtxtZ25
import Derived.Shelf.GgSortFunc.InsertionK
namespace Go.Abs
open Go Go.RowKit Go.Sort Go.Proofs

end Go.Abs
