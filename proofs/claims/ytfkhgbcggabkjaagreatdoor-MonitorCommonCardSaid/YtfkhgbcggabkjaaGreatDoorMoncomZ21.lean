/- Part 21 of the proof: Cmp54. -/
import Derived.Test.YtfkhgbcggabkjaaGreatDoorMoncomZ20
import Derived.Test.YtfkhgbcggabkjaaGreatDoorProg
import Derived.Lib.Strings
import Derived.Lib.Slices
import Derived.Lib.Walk
namespace Go.Abs
open Go Go.Proofs
end Go.Abs
