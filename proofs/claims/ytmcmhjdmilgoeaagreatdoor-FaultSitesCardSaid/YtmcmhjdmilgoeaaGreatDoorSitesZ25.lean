/- Part 25 of the proof: Open2. -/
import Derived.Test.YtmcmhjdmilgoeaaGreatDoorSitesZ24
import Derived.Deep.SlicePairs
namespace Go.Abs
open Go Go.RowKit Go.ChangeShapes Go.WideShapes Go.ChangeAt Go.Deep
section
variable {H : Type} {enc : TypeId × Value → H} {P : Program} {W : World} {t e : TypeId} {base : Nat} {v : Value} {d : DataW H} {ps : List MemPlace}
end
end Go.Abs
