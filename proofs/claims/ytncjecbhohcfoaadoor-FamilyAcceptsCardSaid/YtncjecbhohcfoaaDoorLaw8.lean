/- FamilyAccepts: the plain law. -/
import Derived.Test.YtncjecbhohcfoaaDoorVal08
import Derived.Test.YtncjecbhohcfoaaDoorAw08
namespace Go.Abs
theorem f8_true (x g : List (BitVec 16)) (s : BitVec 16) : f8 x g s = some true := by
  unfold f8
  rw [f10_true]
  simp only [Option.bind_some, Bool.not_true, Bool.false_or]
  by_cases h : x.length > 40 ∨ g.length > 40
  · rw [if_pos (by rcases h with h | h <;> simp <;> omega)]
  · rw [if_neg (by simp; omega), f27_acc x s (by omega), some_bind, f29_eq x s (by omega), some_bind, f30_eq x g (by omega) (by omega), f31_eq x g (by omega) (by omega), f32_eq x (by omega), f33_eq x (by omega)]
    simp only [beq_self_eq_true, optc_t, some_bind, Bool.and_self]
end Go.Abs
