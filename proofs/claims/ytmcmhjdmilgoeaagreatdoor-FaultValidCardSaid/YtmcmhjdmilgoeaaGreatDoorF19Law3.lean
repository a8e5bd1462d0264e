/- FaultValid: the plain law. -/
import Derived.Test.YtmcmhjdmilgoeaaGreatDoorVal19
import Derived.Test.YtmcmhjdmilgoeaaGreatDoorAw19
namespace Go.Abs
theorem f3_true (x : List Flt) : f3 x = some true := by
  unfold f3
  rw [f12_true]
  simp only [Option.bind_some, Bool.not_true, Bool.false_or]
  by_cases h : x.length > 120
  · rw [ifd_pos (by omega)]
  · rw [ifd_neg (by omega), f14_eq x (by omega), some_bind, f13_eq, some_bind, f15_eq, some_bind]
    simp
end Go.Abs
