/- FaultCovers: the plain law. -/
import Derived.Test.YtmcmhjdmilgoeaaGreatDoorTol19
import Derived.Test.YtmcmhjdmilgoeaaGreatDoorAw19
namespace Go.Abs
theorem f4_true (x1 x2 x3 x4 x5 x6 : BitVec 16) : f4 x1 x2 x3 x4 x5 x6 = some true := by
  have e1 := f16_eq (x1, x2) (x3, x4)
  have e2 := f16_eq (x3, x4) (x1, x2)
  have e3 := f16_eq (x3, x4) (x5, x6)
  have e4 := f16_eq (x1, x2) (x5, x6)
  have e5 := f17_eq (x1, x2) (x3, x4)
  have e6 := f17_eq (x3, x4) (x1, x2)
  have e7 := f16_eq (x1, x2) (x1, x2)
  have e8 := f18_eq [(x1, x2), (x3, x4)] (x5, x6) (by simp)
  have e9 := f19_eq [(x1, x2), (x3, x4)] (x5, x6) (by simp)
  have e10 := f18_eq [] (x5, x6) (by simp)
  have e11 := cov_refl (x1, x2)
  simp only at e1 e2 e3 e4 e5 e6 e7 e8 e9 e10
  unfold f4
  rw [f12_true, some_bind, if_neg (by simp), e1, some_bind, e2, some_bind, e3, some_bind, e4, some_bind, e5, some_bind, e6, e7, e8, e9, e10, e11]
  have tr : cov (x1, x2) (x3, x4) = true → cov (x3, x4) (x5, x6) = true → cov (x1, x2) (x5, x6) = true := fun h1 h2 => cov_trans h1 h2
  have an : disj (x1, x2) → disj (x3, x4) → cov (x1, x2) (x3, x4) = true → cov (x3, x4) (x1, x2) = true → (x1, x2) = (x3, x4) := fun h1 h2 h3 h4 => cov_antisymm h1 h2 h3 h4
  unfold disj at an
  generalize cov (x1, x2) (x3, x4) = a at *
  generalize cov (x3, x4) (x1, x2) = b at *
  generalize cov (x3, x4) (x5, x6) = c at *
  generalize cov (x1, x2) (x5, x6) = d at *
  have hno : tol [] (x5, x6) = false := rfl
  rw [hno]
  have h1 : ((!(a == a)) == false) = true := by cases a <;> rfl
  have h2 : (((!(a == a)) || (!(b == b))) == false) = true := by cases a <;> cases b <;> rfl
  have h3 : ((!(tol [(x1, x2), (x3, x4)] (x5, x6) == tol [(x1, x2), (x3, x4)] (x5, x6))) == false) = true := by simp
  rw [h1, optc_t, some_bind, h2, optc_t, some_bind]
  rw [chk_pos (by cases a <;> cases b <;> simp), chk_pos (by cases a <;> cases b <;> cases c <;> simp)]
  rw [if_neg (by cases a <;> cases b <;> cases c <;> cases d <;> simp_all), some_bind, some_bind, h3, optc_t, some_bind, if_neg (by simp)]
  congr 1
  by_cases g1 : x1 &&& x2 = 0#16
  · by_cases g2 : x3 &&& x4 = 0#16
    · cases a with
      | false => simp
      | true =>
        cases b with
        | false => simp
        | true =>
          have := an g1 g2 rfl rfl
          simp only [Prod.mk.injEq] at this
          simp [this.1, this.2]
    · simp [g2]
  · simp [g1]
end Go.Abs
