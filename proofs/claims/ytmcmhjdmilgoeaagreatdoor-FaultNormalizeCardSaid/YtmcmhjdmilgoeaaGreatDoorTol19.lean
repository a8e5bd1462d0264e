/- Chapter 19: Tolerates. -/
import Derived.Test.YtmcmhjdmilgoeaaGreatDoorVal19
namespace Go.Abs
theorem f49_eq (b a : Flt) : f49 b.1 b.2 a.1 a.2 = some (cov b a, a.1, a.2) := by
  unfold f49
  rw [f16_eq]
  rfl
theorem f75a_eq (x : List Flt) (a : Flt) (hx : x.length ≤ 65536) : ∃ i : Int, f75a x a.1 a.2 = some (i, a.1, a.2) ∧ (decide (i ≥ 0)) = tol x a := by
  unfold f75a tol
  rw [jn_eq]
  have := find_up (fun k n => f75a_L0 x (fun q => match q with | (w8, w9) => some ((-1 : Int), w8, w9)) k (n, a.1, a.2)) x default (fun b => cov b a) (fun n => some ((n : Int), a.1, a.2)) (some (-1, a.1, a.2))
    (fun k n hn => by
      dsimp only
      rw [f75a_L0.eq_2, if_pos (by simp; omega), f49_eq, some_bind, chk_pos (by omega)]
      cases cov (x.getD n default) a with
      | true => rw [if_pos rfl, if_pos rfl]
      | false => rw [if_neg (by simp), if_neg (by simp), chk_pos (by omega)])
    (fun k => by
      dsimp only
      rw [f75a_L0.eq_2, if_neg (by simp)]) x.length FUEL 0 (by omega) (fuel_lt (by omega))
  rcases this with ⟨m, _, _, _, h1, h2⟩ | ⟨h1, h2⟩
  · refine ⟨m, h1, ?_⟩
    rw [List.drop_zero] at h2
    rw [h2]; simp
  · refine ⟨-1, h1, ?_⟩
    rw [List.drop_zero] at h2
    rw [h2]; simp
theorem f18_eq (x : List Flt) (a : Flt) (hx : x.length ≤ 65536) : f18 x a.1 a.2 = some (tol x a) := by
  obtain ⟨i, h1, h2⟩ := f75a_eq x a hx
  unfold f18 f48a
  rw [h1, some_bind, some_bind, h2]
theorem f19_eq (x : List Flt) (a : Flt) (hx : x.length ≤ 65536) : f19 x a.1 a.2 = some (tol x a) := by
  unfold f19 tol
  rw [jn_eq]
  have := any_up (f19_L0 x a.1 a.2 fun _ => some false) x default (fun b => cov b a) (some true) (some false)
    (fun k n hn => by
      rw [f19_L0.eq_2, if_pos (by simp; omega), f17_eq, some_bind, chk_pos (by omega)]
      cases cov (x.getD n default) a with
      | true => rw [if_pos rfl, if_pos rfl]
      | false => rw [if_neg (by simp), if_neg (by simp), chk_pos (by omega)])
    (fun k => by rw [f19_L0.eq_2, if_neg (by simp)]) FUEL (fuel_lt (by omega))
  rw [this]
  split <;> rename_i h
  · rw [h]
  · have h : x.any (fun b => cov b a) = false := by simpa using h
    rw [h]
end Go.Abs
