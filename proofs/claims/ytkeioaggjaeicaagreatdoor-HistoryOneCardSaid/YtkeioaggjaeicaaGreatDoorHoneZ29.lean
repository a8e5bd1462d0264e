/- Part 29 of the proof: AtoiW. -/
import Derived.Test.YtkeioaggjaeicaaGreatDoorHoneZ28
import Derived.Shelf.Strconv.AtoiAll
namespace Go.Abs
open Go Go.RowKit Go.Lib Go.Shelf Go.Proofs
end Go.Abs
