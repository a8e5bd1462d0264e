/- FamilyValid: the plain law. -/
import Derived.Test.YtncjecbhohcfoaaDoorVal08
import Derived.Test.YtncjecbhohcfoaaDoorAw08
namespace Go.Abs
theorem f3_true (x : List (BitVec 16)) : f3 x = some true := by
  unfold f3
  rw [f10_true]
  simp only [Option.bind_some, Bool.not_true, Bool.false_or]
  by_cases h : x.length > 410
  · rw [ifd_pos (by omega)]
  · obtain ⟨e, h1, h2⟩ := f11_f13 x
    rw [ifd_neg (by omega), f12_eq x (by omega), some_bind, h1, some_bind, h2, some_bind]
    simp
end Go.Abs
