/- set.Compare and fault.compare, out of their pure programs; slices.SortFunc by them. -/
import Derived.Test.YtmcmhjdmilgoeaaGreatDoorXC19
import Derived.Test.YtmcmhjdmilgoeaaGreatDoorFamF
namespace Go.Abs
theorem bit_toNat (x : BitVec 16) (i : Nat) : ((x >>> i) &&& (BitVec.ofInt 16 1)).toNat = x.toNat / 2 ^ i % 2 := by
  rw [BitVec.toNat_and, BitVec.toNat_ushiftRight, Nat.shiftRight_eq_div_pow]
  exact Nat.and_one_is_mod _
theorem cs0_at (b : Nat) (h : b < 256) : (cs0.getD b 0).toNat = bsum b 0 8 := pop8_at b h
theorem f116_eq (x : BitVec 16) : f116 x = some (sz x : Int) := by
  have h1 : (x >>> 8).toNat = x.toNat / 256 := by rw [BitVec.toNat_ushiftRight, Nat.shiftRight_eq_div_pow]
  have h2 : (x &&& (BitVec.ofInt 16 255)).toNat = x.toNat % 256 := by
    rw [BitVec.toNat_and]
    exact Nat.and_two_pow_sub_one_eq_mod x.toNat 8
  have hx := x.isLt
  have hl : cs0.length = 256 := by kernel_rfl
  have e1 := cs0_at (x.toNat / 256) (by omega)
  have e2 := cs0_at (x.toNat % 256) (by omega)
  have l1 := bsum_le (x.toNat / 256) 8 0
  have l2 := bsum_le (x.toNat % 256) 8 0
  unfold f116 chk
  rw [h1, h2, e1, e2, hl, if_pos (by omega), if_pos (by omega), if_pos (by omega), if_pos (by omega), bsum_split]
  rfl
theorem f91_eq (x : BitVec 16) : f91 x = some (sz x : Int) := by
  unfold f91; rw [f116_eq]; rfl
theorem f90_eq (a b : Int) : f90 a b = some (cmpI a b) := by
  unfold f90 f115 cmpI
  simp
  split
  · rfl
  · split <;> rfl
theorem f92_eq (a b : BitVec 16) : f92 a b = some (cmpI a.toNat b.toNat) := by
  unfold f92 f117 cmpI
  simp
  split
  · rfl
  · split <;> rfl
theorem f73_eq (a b : Int) : f73 [a, b] = some (if a ≠ 0 then a else b) := by
  unfold f73 jn
  dsimp only
  obtain ⟨k, hk⟩ : ∃ k, FUEL = k + 1 + 1 + 1 := ⟨FUEL - 3, by unfold FUEL; rfl⟩
  rw [hk, f73_L0.eq_2, if_pos (by simp)]
  unfold chk
  rw [if_pos (by simp)]
  by_cases ha : a = 0
  · subst ha
    simp only [List.getD_cons_zero, bne_self_eq_false, Bool.false_eq_true, if_false]
    rw [if_pos (by omega), f73_L0.eq_2, if_pos (by simp)]
    unfold chk
    rw [if_pos (by simp)]
    by_cases hb : b = 0
    · subst hb
      simp only [Nat.zero_add, List.getD_cons_succ, List.getD_cons_zero, bne_self_eq_false, Bool.false_eq_true, if_false]
      rw [if_pos (by omega), f73_L0.eq_2, if_neg (by simp)]
      simp
    · simp [hb]
  · simp [ha]
theorem f65_eq' (a b : BitVec 16) : f65 a b = some (cmpS a b) := by
  unfold f65
  rw [f91_eq, f91_eq]
  simp only [Option.bind_some, f90_eq, f92_eq, f73_eq]
  rfl
theorem f65_eq (a b : BitVec 16) : ∃ c, f65 a b = some c ∧ ((c ≥ 0) ↔ ltS a b = false) := by
  refine ⟨_, f65_eq' a b, ?_⟩
  have := cmpS_lt a b
  rw [← this]
  simp
theorem cmpS_zero {a b : BitVec 16} (h : cmpS a b = 0) : key a = key b := by
  unfold cmpS cmpI at h
  unfold key
  have ha := a.isLt
  have hb := b.isLt
  by_cases h1 : sz a = sz b
  · rw [h1] at h ⊢
    simp at h
    split at h
    · cases h
    · split at h
      · cases h
      · omega
  · by_cases h2 : sz a < sz b
    · simp [h2] at h
    · have : sz b < sz a := by omega
      simp [h2, this] at h
theorem cmpS_neg (a b : BitVec 16) : cmpS a b < 0 ↔ key a < key b := by
  have h := cmpS_lt a b
  rw [← ltS_key, ← h]; simp
/-- fault.compare -/
def cmpF (a b : Flt) : Int := if cmpS a.1 b.1 ≠ 0 then cmpS a.1 b.1 else cmpS a.2 b.2
theorem cmpF_lt (a b : Flt) : decide (cmpF a b < 0) = decide (keyF a < keyF b) := by
  unfold cmpF keyF
  have h1 := key_lt a.1
  have h2 := key_lt a.2
  have h3 := key_lt b.1
  have h4 := key_lt b.2
  have n1 := cmpS_neg a.1 b.1
  have n2 := cmpS_neg a.2 b.2
  by_cases h : cmpS a.1 b.1 = 0
  · have := cmpS_zero h
    rw [if_neg (by simpa using h)]
    rw [decide_eq_decide, n2]; omega
  · rw [if_pos h, decide_eq_decide, n1]
    have h5 : key a.1 ≠ key b.1 := by
      intro e
      have e' := key_inj' e
      rw [e'] at h
      apply h
      unfold cmpS cmpI; simp
    omega
theorem f43_eq' (a b : Flt) : f43 a.1 a.2 b.1 b.2 = some (cmpF a b) := by
  unfold f43
  simp only [f65_eq', Option.bind_some, f73_eq]
  rfl
end Go.Abs
