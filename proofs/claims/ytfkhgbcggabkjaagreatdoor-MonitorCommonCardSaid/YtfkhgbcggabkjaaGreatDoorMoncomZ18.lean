/- Part 18 of the proof: Ins54. -/
import Derived.Test.YtfkhgbcggabkjaaGreatDoorMoncomZ17
import Derived.Test.YtfkhgbcggabkjaaGreatDoorProg
import Derived.Shelf.RegionOpenPlain
import Derived.WalkKit
import Derived.Deep.RegionLaw
import Derived.Lib.Walk
import Derived.Lib.SliceRun
import Derived.Lib.AppendZeros
import Derived.Lib.AppendZerosOnto
import Derived.Lib.Overlaps
namespace Go.Abs
open Go Go.Shelf Go.RowKit Go.Lib Go.Proofs
end Go.Abs
