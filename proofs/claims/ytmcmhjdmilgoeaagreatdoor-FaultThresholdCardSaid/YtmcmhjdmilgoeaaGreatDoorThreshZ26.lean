/- Part 26 of the proof: AbsX2. -/
import Derived.Test.YtmcmhjdmilgoeaaGreatDoorThreshZ25
import Derived.Lib.Bytealg
namespace Go.Abs
open Go Go.RowKit
end Go.Abs
