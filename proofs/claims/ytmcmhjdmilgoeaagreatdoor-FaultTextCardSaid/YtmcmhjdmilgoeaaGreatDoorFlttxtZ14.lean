/- Part 14 of the proof: AbsX2. -/
import Derived.Test.YtmcmhjdmilgoeaaGreatDoorFlttxtZ13
import Derived.Lib.Bytealg
namespace Go.Abs
open Go Go.RowKit
end Go.Abs
