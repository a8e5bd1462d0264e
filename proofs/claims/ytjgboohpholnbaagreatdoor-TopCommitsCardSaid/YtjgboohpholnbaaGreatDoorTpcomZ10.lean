/- Part 10 of the proof: AbsS. -/
import Derived.Test.YtjgboohpholnbaaGreatDoorTpcomZ09
import Derived.MapKept
namespace Go.Abs
open Go Go.MapKept
section
variable {P : Program} {St : Nat → Prop} {w : World}
end
end Go.Abs
