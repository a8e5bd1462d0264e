/- Plain laws of chapter 08: sizes, order. -/
import Derived.Test.YtncjecbhohcfoaaDoorTry4P4
namespace Go.Abs

/-- the bits of n from number i on, c of them -/
def bsum (n : Nat) : Nat → Nat → Nat
  | _, 0 => 0
  | i, c + 1 => n / 2 ^ i % 2 + bsum n (i + 1) c

theorem bit_toNat (x : BitVec 16) (i : Nat) : ((x >>> i) &&& (BitVec.ofInt 16 1)).toNat = x.toNat / 2 ^ i % 2 := by
  rw [BitVec.toNat_and, BitVec.toNat_ushiftRight, Nat.shiftRight_eq_div_pow]
  exact Nat.and_one_is_mod _

theorem f59_L0_eq (x : BitVec 16) (K : Nat → Option Int) : ∀ (c k acc i : Nat), i + c = 16 → c < k → acc ≤ i → f59_L0 x K k (acc, i) = K (acc + bsum x.toNat i c)
  | 0, k, acc, i, hi, hk, ha => by
    obtain ⟨k, rfl⟩ : ∃ q, k = q + 1 := ⟨k - 1, by omega⟩
    rw [f59_L0.eq_2, if_neg (by simp; omega)]
    simp [bsum]
  | c + 1, k, acc, i, hi, hk, ha => by
    obtain ⟨k, rfl⟩ : ∃ q, k = q + 1 := ⟨k - 1, by omega⟩
    rw [f59_L0.eq_2, if_pos (by simp; omega)]
    have hb : x.toNat / 2 ^ i % 2 < 2 := Nat.mod_lt _ (by decide)
    unfold chk
    rw [bit_toNat, if_pos (by omega), if_pos (by omega), f59_L0_eq x K c k _ (i + 1) (by omega) (by omega) (by omega)]
    simp only [bsum, Nat.add_assoc]
def sz (x : BitVec 16) : Nat := bsum x.toNat 0 16
theorem f59_eq (x : BitVec 16) : f59 x = some (sz x : Int) := by
  unfold f59 jn
  dsimp only
  rw [f59_L0_eq x _ 16 FUEL 0 0 rfl (by unfold FUEL; omega) (Nat.le_refl _), Nat.zero_add]
  rfl
theorem cs0_all : (List.range 256).all (fun b => (cs0.getD b 0).toNat == bsum b 0 8) = true := by kernel_rfl
theorem cs0_at (b : Nat) (h : b < 256) : (cs0.getD b 0).toNat = bsum b 0 8 := by
  have := List.all_eq_true.1 cs0_all b (List.mem_range.2 h)
  simpa using this
theorem bsum_lo (n : Nat) : bsum (n % 256) 0 8 = bsum n 0 8 := by
  have h0 : n % 256 / 2 ^ 0 % 2 = n / 2 ^ 0 % 2 := by omega
  have h1 : n % 256 / 2 ^ 1 % 2 = n / 2 ^ 1 % 2 := by omega
  have h2 : n % 256 / 2 ^ 2 % 2 = n / 2 ^ 2 % 2 := by omega
  have h3 : n % 256 / 2 ^ 3 % 2 = n / 2 ^ 3 % 2 := by omega
  have h4 : n % 256 / 2 ^ 4 % 2 = n / 2 ^ 4 % 2 := by omega
  have h5 : n % 256 / 2 ^ 5 % 2 = n / 2 ^ 5 % 2 := by omega
  have h6 : n % 256 / 2 ^ 6 % 2 = n / 2 ^ 6 % 2 := by omega
  have h7 : n % 256 / 2 ^ 7 % 2 = n / 2 ^ 7 % 2 := by omega
  simp only [bsum, h0, h1, h2, h3, h4, h5, h6, h7]
theorem bsum_hi (n m : Nat) : ∀ c i, bsum (n / 2 ^ m) i c = bsum n (m + i) c
  | 0, i => rfl
  | c + 1, i => by
    simp only [bsum, bsum_hi n m c (i + 1)]
    rw [Nat.div_div_eq_div_mul, ← Nat.pow_add]
    rfl
theorem bsum_app (n : Nat) : ∀ c i d, bsum n i (c + d) = bsum n i c + bsum n (i + c) d
  | 0, i, d => by simp [bsum]
  | c + 1, i, d => by
    rw [show c + 1 + d = (c + d) + 1 by omega]
    simp only [bsum, bsum_app n c (i + 1) d]
    rw [show i + 1 + c = i + (c + 1) by omega]; omega
theorem bsum_split (n : Nat) : bsum (n / 256) 0 8 + bsum (n % 256) 0 8 = bsum n 0 16 := by
  have h := bsum_app n 8 0 8
  have h2 := bsum_hi n 8 8 0
  rw [bsum_lo]
  simp only [Nat.reducePow, Nat.reduceAdd] at h h2 ⊢
  omega
theorem bsum_le (n : Nat) : ∀ c i, bsum n i c ≤ c
  | 0, i => Nat.le_refl _
  | c + 1, i => by
    have := bsum_le n c (i + 1)
    have hb : n / 2 ^ i % 2 < 2 := Nat.mod_lt _ (by decide)
    simp only [bsum]; omega
theorem f82_eq (x : BitVec 16) : f82 x = some (sz x : Int) := by
  have h1 : (x >>> 8).toNat = x.toNat / 256 := by rw [BitVec.toNat_ushiftRight, Nat.shiftRight_eq_div_pow]
  have h2 : (x &&& (BitVec.ofInt 16 255)).toNat = x.toNat % 256 := by
    rw [BitVec.toNat_and]
    exact Nat.and_two_pow_sub_one_eq_mod x.toNat 8
  have hx := x.isLt
  have hl : cs0.length = 256 := by kernel_rfl
  have e1 := cs0_at (x.toNat / 256) (by omega)
  have e2 := cs0_at (x.toNat % 256) (by omega)
  have l1 := bsum_le (x.toNat / 256) 8 0
  have l2 := bsum_le (x.toNat % 256) 8 0
  unfold f82 chk
  rw [h1, h2, e1, e2, hl, if_pos (by omega), if_pos (by omega), if_pos (by omega), if_pos (by omega), bsum_split]
  rfl
theorem f64_eq (x : BitVec 16) : f64 x = some (sz x : Int) := by
  unfold f64; rw [f82_eq]; rfl

def cmpI (a b : Int) : Int := if a < b then -1 else if a > b then 1 else 0
theorem f63_eq (a b : Int) : f63 a b = some (cmpI a b) := by
  unfold f63 f81 cmpI
  simp
  split
  · rfl
  · split <;> rfl
theorem f65_eq (a b : BitVec 16) : f65 a b = some (cmpI a.toNat b.toNat) := by
  unfold f65 f83 cmpI
  simp
  split
  · rfl
  · split <;> rfl
theorem f62_eq (a b : Int) : f62 [a, b] = some (if a ≠ 0 then a else b) := by
  unfold f62 jn
  dsimp only
  obtain ⟨k, hk⟩ : ∃ k, FUEL = k + 1 + 1 + 1 := ⟨FUEL - 3, by unfold FUEL; rfl⟩
  rw [hk, f62_L0.eq_2, if_pos (by simp)]
  unfold chk
  rw [if_pos (by simp)]
  by_cases ha : a = 0
  · subst ha
    simp only [List.getD_cons_zero, bne_self_eq_false, Bool.false_eq_true, if_false]
    rw [if_pos (by omega), f62_L0.eq_2, if_pos (by simp)]
    unfold chk
    rw [if_pos (by simp)]
    by_cases hb : b = 0
    · subst hb
      simp only [Nat.zero_add, List.getD_cons_succ, List.getD_cons_zero, bne_self_eq_false, Bool.false_eq_true, if_false]
      rw [if_pos (by omega), f62_L0.eq_2, if_neg (by simp)]
      simp
    · simp [hb]
  · simp [ha]
/-- the order of sets -/
def ltS (a b : BitVec 16) : Bool := if sz a ≠ sz b then decide (sz a < sz b) else decide (a.toNat < b.toNat)
theorem f40_eq (a b : BitVec 16) : f40 a b = some (ltS a b) := by
  unfold f40 ltS
  rw [f59_eq, f59_eq]
  by_cases h : sz a = sz b
  · simp [h]
  · simp [h]
    intro e; omega
theorem f38_eq (a b : BitVec 16) : ∃ c, f38 a b = some c ∧ ((c ≥ 0) ↔ ltS a b = false) := by
  unfold f38
  rw [f64_eq, f64_eq]
  simp only [Option.bind_some, f63_eq, f65_eq, f62_eq]
  refine ⟨_, rfl, ?_⟩
  unfold cmpI ltS
  by_cases h : sz a = sz b
  · rw [h]
    simp
    split <;> rename_i h1
    · simp; omega
    · split <;> simp <;> omega
  · by_cases h1 : sz a < sz b
    · simp [h, h1]
    · have : sz b < sz a := by omega
      simp [h, h1, this]

theorem and_hi (n : Nat) (h : n < 65536) : (n &&& 61440 = 0) ↔ n < 4096 := by
  have e : (n &&& 61440) >>> 12 = n / 4096 := by
    rw [Nat.shiftRight_and_distrib, Nat.shiftRight_eq_div_pow]
    show (n / 4096) &&& 15 = n / 4096
    rw [show (15 : Nat) = 2 ^ 4 - 1 from rfl, Nat.and_two_pow_sub_one_eq_mod]
    omega
  constructor
  · intro h0
    rw [h0] at e
    simp at e
    omega
  · intro hn
    apply Nat.eq_of_testBit_eq
    intro i
    rw [Nat.testBit_and, Nat.zero_testBit]
    by_cases hi : i < 12
    · have : Nat.testBit 61440 i = false := by
        rw [show (61440 : Nat) = 2 ^ 12 * 15 from rfl, Nat.testBit_two_pow_mul]
        simp; omega
      rw [this, Bool.and_false]
    · have : n.testBit i = false := Nat.testBit_lt_two_pow (Nat.lt_of_lt_of_le hn (Nat.pow_le_pow_right (n := 2) (by decide) (by omega : 12 ≤ i)))
      rw [this, Bool.false_and]
theorem outside_eq (x : BitVec 16) : ((x &&& (BitVec.ofInt 16 61440)) == (BitVec.ofInt 16 0)) = decide (x.toNat < 4096) := by
  have h := and_hi x.toNat x.isLt
  rw [Bool.eq_iff_iff, beq_iff_eq, decide_eq_true_eq, ← h]
  constructor
  · intro e
    have := congrArg BitVec.toNat e
    simpa using this
  · intro e
    apply BitVec.eq_of_toNat_eq
    simpa using e
theorem f39_eq (x : BitVec 16) : f39 x = some (decide (x.toNat < 4096)) := rfl
/-- y is a part of x -/
def sub (y x : BitVec 16) : Bool := (y &&& ~~~x) == 0#16
theorem f41_eq (x y : BitVec 16) : f41 x y = some (sub y x) := rfl
theorem bsum_mono {m n : Nat} : ∀ (c i : Nat), (∀ j, i ≤ j → j < i + c → m / 2 ^ j % 2 ≤ n / 2 ^ j % 2) → bsum m i c ≤ bsum n i c ∧ (bsum m i c = bsum n i c → ∀ j, i ≤ j → j < i + c → m / 2 ^ j % 2 = n / 2 ^ j % 2)
  | 0, i, _ => ⟨Nat.le_refl _, fun _ j h1 h2 => by omega⟩
  | c + 1, i, h => by
    obtain ⟨h1, h2⟩ := bsum_mono c (i + 1) fun j a b => h j (by omega) (by omega)
    have h3 := h i (Nat.le_refl _) (by omega)
    simp only [bsum]
    refine ⟨by omega, fun e j a b => ?_⟩
    by_cases hj : j = i
    · subst hj; omega
    · exact h2 (by omega) j (by omega) (by omega)
theorem sub_bits {x y : BitVec 16} (h : sub y x = true) (j : Nat) (hj : j < 16) : y.toNat / 2 ^ j % 2 ≤ x.toNat / 2 ^ j % 2 := by
  unfold sub at h
  rw [beq_iff_eq] at h
  have h1 := congrArg (fun z => z.getLsbD j) h
  simp [hj] at h1
  have hy : y[j] = y.toNat.testBit j := rfl
  have hx : x[j] = x.toNat.testBit j := rfl
  rw [hy, hx] at h1
  rw [Nat.testBit_eq_decide_div_mod_eq, Nat.testBit_eq_decide_div_mod_eq] at h1
  simp at h1
  have a := Nat.mod_lt (y.toNat / 2 ^ j) (show 0 < 2 by decide)
  have b := Nat.mod_lt (x.toNat / 2 ^ j) (show 0 < 2 by decide)
  omega
theorem sub_sz {x y : BitVec 16} (h : sub y x = true) : sz y ≤ sz x ∧ (sz y = sz x → y = x) := by
  obtain ⟨h1, h2⟩ := bsum_mono (m := y.toNat) (n := x.toNat) 16 0 fun j _ hj => sub_bits h j (by omega)
  refine ⟨h1, fun e => ?_⟩
  apply BitVec.eq_of_toNat_eq
  apply Nat.eq_of_testBit_eq
  intro i
  by_cases hi : i < 16
  · rw [Nat.testBit_eq_decide_div_mod_eq, Nat.testBit_eq_decide_div_mod_eq, h2 e i (by omega) (by omega)]
  · rw [Nat.testBit_lt_two_pow (Nat.lt_of_lt_of_le y.isLt (Nat.pow_le_pow_right (n := 2) (by decide) (by omega))), Nat.testBit_lt_two_pow (Nat.lt_of_lt_of_le x.isLt (Nat.pow_le_pow_right (n := 2) (by decide) (by omega)))]
end Go.Abs
