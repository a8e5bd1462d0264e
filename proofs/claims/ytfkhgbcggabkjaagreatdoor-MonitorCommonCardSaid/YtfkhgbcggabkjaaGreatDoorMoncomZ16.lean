/- Part 16 of the proof: AbsX2. -/
import Derived.Test.YtfkhgbcggabkjaaGreatDoorMoncomZ15
import Derived.Lib.Bytealg
namespace Go.Abs
open Go Go.RowKit
end Go.Abs
