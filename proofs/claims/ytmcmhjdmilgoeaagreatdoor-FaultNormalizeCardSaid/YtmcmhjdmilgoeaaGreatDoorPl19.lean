/- Chapter 19: the small functions. -/
import Derived.Test.YtmcmhjdmilgoeaaGreatDoorX19P2
import Derived.Test.YtmcmhjdmilgoeaaGreatDoorPl
import Derived.Test.YtmcmhjdmilgoeaaGreatDoorFamF
namespace Go.Abs
/-- the servers of a set -/
def mems (x : BitVec 16) : List Nat := (List.range 16).filter fun i => decide (x.toNat / 2 ^ i % 2 = 1)
theorem bit_eq (x : BitVec 16) (n : Nat) : (((x >>> n) &&& (BitVec.ofInt 16 1)) == (BitVec.ofInt 16 1)) = decide (x.toNat / 2 ^ n % 2 = 1) := by
  have h := bit_toNat x n
  rw [Bool.eq_iff_iff, beq_iff_eq, decide_eq_true_eq, ← h]
  constructor
  · intro e; rw [e]; rfl
  · intro e; exact BitVec.eq_of_toNat_eq e
theorem f78_eq (x : BitVec 16) (n : Nat) (h : n < 16) : f78 x (n : Int) = some (decide (x.toNat / 2 ^ n % 2 = 1)) := by
  unfold f78
  rw [chk_pos (by intro; omega), Int.toNat_natCast, bit_eq]
  have h1 : (decide ((n : Int) ≥ 0)) = true := by simp
  have h2 : (decide ((n : Int) < 16)) = true := by simp; omega
  rw [h1, h2]
  rfl
theorem f53_L0_eq (x : BitVec 16) (K : List Int → Option (List Int)) : ∀ (c k n : Nat) (l : List Int), n + c = 16 → c < k → l.length ≤ n →
    f53_L0 x K k (n, l) = K (l ++ ((List.range' n c).filter fun i => decide (x.toNat / 2 ^ i % 2 = 1)).map fun i : Nat => (i : Int))
  | 0, k, n, l, hn, hk, hl => by
    obtain ⟨k, rfl⟩ : ∃ q, k = q + 1 := ⟨k - 1, by omega⟩
    rw [f53_L0.eq_2, if_neg (by simp; omega)]
    simp
  | c + 1, k, n, l, hn, hk, hl => by
    obtain ⟨k, rfl⟩ : ∃ q, k = q + 1 := ⟨k - 1, by omega⟩
    rw [f53_L0.eq_2, if_pos (by simp; omega), jn_eq, f78_eq x n (by omega), some_bind, List.range'_succ, List.filter_cons]
    by_cases hb : x.toNat / 2 ^ n % 2 = 1
    · rw [if_pos (decide_eq_true hb), chk_pos (by omega), if_pos (decide_eq_true hb)]
      dsimp only
      rw [chk_pos (by omega), f53_L0_eq x K c k (n + 1) _ (by omega) (by omega) (by simp; omega)]
      simp
    · rw [if_neg (by simpa using hb), if_neg (by simpa using hb)]
      dsimp only
      rw [chk_pos (by omega), f53_L0_eq x K c k (n + 1) _ (by omega) (by omega) (by omega)]
theorem f53_eq (x : BitVec 16) : f53 x = some ((mems x).map fun i : Nat => (i : Int)) := by
  unfold f53
  rw [jn_eq, f53_L0_eq x _ 16 FUEL 0 [] rfl (by unfold FUEL; omega) (Nat.zero_le _), List.nil_append, mems, List.range_eq_range']
theorem mems_bsum (x : Nat) : ∀ c n, ((List.range' n c).filter fun i => decide (x / 2 ^ i % 2 = 1)).length = bsum x n c
  | 0, n => rfl
  | c + 1, n => by
    rw [List.range'_succ, List.filter_cons, bsum]
    have hb : x / 2 ^ n % 2 < 2 := Nat.mod_lt _ (by decide)
    split <;> rename_i h
    · have h : x / 2 ^ n % 2 = 1 := by simpa using h
      rw [List.length_cons, mems_bsum x c (n + 1), h]; omega
    · have h : ¬ x / 2 ^ n % 2 = 1 := by simpa using h
      rw [mems_bsum x c (n + 1)]; omega
theorem mems_len (x : BitVec 16) : (mems x).length = sz x := by
  unfold mems
  rw [List.range_eq_range', mems_bsum]
  rfl
theorem f24_eq (x : BitVec 16) : f24 x = some (sz x : Int) := by
  unfold f24
  rw [f53_eq, some_bind, List.length_map, mems_len]
theorem f74_eq (a b : BitVec 16) : ∃ c, f74 a b = some c ∧ (c = 0 ↔ a = b) ∧ (c < 0 ↔ key a < key b) := by
  unfold f74
  rw [f24_eq, f24_eq]
  by_cases h : a = b
  · subst h
    rw [if_pos (by simp)]
    exact ⟨0, rfl, by simp, by simp⟩
  · rw [if_neg (by simpa using h)]
    have hn : a.toNat ≠ b.toNat := fun e => h (BitVec.eq_of_toNat_eq e)
    have ha := a.isLt
    have hb := b.isLt
    rw [some_bind, some_bind]
    unfold key
    by_cases h1 : sz a < sz b
    · refine ⟨-1, ?_, ?_, ?_⟩
      · simp [optc, chk, h1]
      · simp [h]
      · simp; omega
    · by_cases h2 : sz a = sz b
      · by_cases h3 : a.toNat < b.toNat
        · exact ⟨-1, by simp [optc, chk, h2, h3], by simp [h], by simp; omega⟩
        · exact ⟨1, by simp [optc, chk, h2, h3], by simp [h], by simp; omega⟩
      · exact ⟨1, by simp [optc, chk, h1, h2]; omega, by simp [h], by simp; omega⟩
theorem f45_eq (a b : Flt) : ∃ c, f45 a.1 a.2 b.1 b.2 = some c ∧ (c < 0 ↔ keyF a < keyF b) := by
  obtain ⟨c, h1, h2, h3⟩ := f74_eq a.1 b.1
  obtain ⟨d, h4, h5, h6⟩ := f74_eq a.2 b.2
  have k1 := key_lt a.1
  have k2 := key_lt a.2
  have k3 := key_lt b.1
  have k4 := key_lt b.2
  unfold f45 keyF
  rw [h1, h4, some_bind, some_bind]
  by_cases hc : c = 0
  · refine ⟨d, by simp [hc], ?_⟩
    rw [h2.1 hc, h6]; omega
  · refine ⟨c, by simp [hc], ?_⟩
    have : key a.1 ≠ key b.1 := fun e => hc (h2.2 (key_inj' e))
    rw [h3]; omega
theorem f43_lt (a b : Flt) : ∃ c, f43 a.1 a.2 b.1 b.2 = some c ∧ (c < 0 ↔ keyF a < keyF b) :=
  ⟨_, f43_eq' a b, by have := cmpF_lt a b; simpa using this⟩
theorem f16_eq (b a : Flt) : f16 b.1 b.2 a.1 a.2 = some (cov b a) := by
  unfold f16 f46 cov sub ftyS
  by_cases h : (a.1 &&& ~~~b.1) = 0#16
  · simp [h, optc_t]
  · have e : (a.1 &&& ~~~b.1 == 0#16) = false := by simpa using h
    simp [e, optc_f]
theorem f17_eq (b a : Flt) : f17 b.1 b.2 a.1 a.2 = some (cov b a) := by
  unfold f17 f47 f23 cov sub ftyS
  by_cases h : (a.1 &&& ~~~b.1) = 0#16
  · simp [h, optc_t]
  · have e : (a.1 &&& ~~~b.1 == 0#16) = false := by simpa using h
    simp [e, optc_f]
end Go.Abs
