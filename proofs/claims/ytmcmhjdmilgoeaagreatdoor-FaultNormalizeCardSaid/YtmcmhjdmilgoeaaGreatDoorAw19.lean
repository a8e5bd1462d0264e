/- awake of chapter 19 returns true: by evaluation. -/
import Derived.Test.YtmcmhjdmilgoeaaGreatDoorX19P2
namespace Go.Abs
theorem f12_true : f12 = some true := by kernel_rfl
end Go.Abs
