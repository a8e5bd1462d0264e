/- Sizes of sets of 16 bits, and their order. -/
namespace Go.Abs

/-- the bits of n from number i on, c of them -/
def bsum (n : Nat) : Nat → Nat → Nat
  | _, 0 => 0
  | i, c + 1 => n / 2 ^ i % 2 + bsum n (i + 1) c
def sz (x : BitVec 16) : Nat := bsum x.toNat 0 16
theorem bsum_lo (n : Nat) : bsum (n % 256) 0 8 = bsum n 0 8 := by
  have h0 : n % 256 / 2 ^ 0 % 2 = n / 2 ^ 0 % 2 := by omega
  have h1 : n % 256 / 2 ^ 1 % 2 = n / 2 ^ 1 % 2 := by omega
  have h2 : n % 256 / 2 ^ 2 % 2 = n / 2 ^ 2 % 2 := by omega
  have h3 : n % 256 / 2 ^ 3 % 2 = n / 2 ^ 3 % 2 := by omega
  have h4 : n % 256 / 2 ^ 4 % 2 = n / 2 ^ 4 % 2 := by omega
  have h5 : n % 256 / 2 ^ 5 % 2 = n / 2 ^ 5 % 2 := by omega
  have h6 : n % 256 / 2 ^ 6 % 2 = n / 2 ^ 6 % 2 := by omega
  have h7 : n % 256 / 2 ^ 7 % 2 = n / 2 ^ 7 % 2 := by omega
  simp only [bsum, h0, h1, h2, h3, h4, h5, h6, h7]
theorem bsum_hi (n m : Nat) : ∀ c i, bsum (n / 2 ^ m) i c = bsum n (m + i) c
  | 0, i => rfl
  | c + 1, i => by
    simp only [bsum, bsum_hi n m c (i + 1)]
    rw [Nat.div_div_eq_div_mul, ← Nat.pow_add]
    rfl
theorem bsum_app (n : Nat) : ∀ c i d, bsum n i (c + d) = bsum n i c + bsum n (i + c) d
  | 0, i, d => by simp [bsum]
  | c + 1, i, d => by
    rw [show c + 1 + d = (c + d) + 1 by omega]
    simp only [bsum, bsum_app n c (i + 1) d]
    rw [show i + 1 + c = i + (c + 1) by omega]; omega
theorem bsum_split (n : Nat) : bsum (n / 256) 0 8 + bsum (n % 256) 0 8 = bsum n 0 16 := by
  have h := bsum_app n 8 0 8
  have h2 := bsum_hi n 8 8 0
  rw [bsum_lo]
  simp only [Nat.reducePow, Nat.reduceAdd] at h h2 ⊢
  omega
theorem bsum_le (n : Nat) : ∀ c i, bsum n i c ≤ c
  | 0, i => Nat.le_refl _
  | c + 1, i => by
    have := bsum_le n c (i + 1)
    have hb : n / 2 ^ i % 2 < 2 := Nat.mod_lt _ (by decide)
    simp only [bsum]; omega
def pop8 : List UInt8 := [0, 1, 1, 2, 1, 2, 2, 3, 1, 2, 2, 3, 2, 3, 3, 4, 1, 2, 2, 3, 2, 3, 3, 4, 2, 3, 3, 4, 3, 4, 4, 5, 1, 2, 2, 3, 2, 3, 3, 4, 2, 3, 3, 4, 3, 4, 4, 5, 2, 3, 3, 4, 3, 4, 4, 5, 3, 4, 4, 5, 4, 5, 5, 6, 1, 2, 2, 3, 2, 3, 3, 4, 2, 3, 3, 4, 3, 4, 4, 5, 2, 3, 3, 4, 3, 4, 4, 5, 3, 4, 4, 5, 4, 5, 5, 6, 2, 3, 3, 4, 3, 4, 4, 5, 3, 4, 4, 5, 4, 5, 5, 6, 3, 4, 4, 5, 4, 5, 5, 6, 4, 5, 5, 6, 5, 6, 6, 7, 1, 2, 2, 3, 2, 3, 3, 4, 2, 3, 3, 4, 3, 4, 4, 5, 2, 3, 3, 4, 3, 4, 4, 5, 3, 4, 4, 5, 4, 5, 5, 6, 2, 3, 3, 4, 3, 4, 4, 5, 3, 4, 4, 5, 4, 5, 5, 6, 3, 4, 4, 5, 4, 5, 5, 6, 4, 5, 5, 6, 5, 6, 6, 7, 2, 3, 3, 4, 3, 4, 4, 5, 3, 4, 4, 5, 4, 5, 5, 6, 3, 4, 4, 5, 4, 5, 5, 6, 4, 5, 5, 6, 5, 6, 6, 7, 3, 4, 4, 5, 4, 5, 5, 6, 4, 5, 5, 6, 5, 6, 6, 7, 4, 5, 5, 6, 5, 6, 6, 7, 5, 6, 6, 7, 6, 7, 7, 8]
theorem pop8_all : (List.range 256).all (fun b => (pop8.getD b 0).toNat == bsum b 0 8) = true := by decide +kernel
theorem pop8_at (b : Nat) (h : b < 256) : (pop8.getD b 0).toNat = bsum b 0 8 := by
  have := List.all_eq_true.1 pop8_all b (List.mem_range.2 h)
  simpa using this
def cmpI (a b : Int) : Int := if a < b then -1 else if a > b then 1 else 0
/-- the order of sets -/
def ltS (a b : BitVec 16) : Bool := if sz a ≠ sz b then decide (sz a < sz b) else decide (a.toNat < b.toNat)
def key (x : BitVec 16) : Nat := sz x * 65536 + x.toNat
theorem ltS_key {a b : BitVec 16} : ltS a b = true ↔ key a < key b := by
  have ha := a.isLt
  have hb := b.isLt
  unfold ltS key
  by_cases h : sz a = sz b
  · simp [h]
  · simp only [ne_eq, h, not_false_eq_true, if_true, decide_eq_true_eq]
    omega
/-- set.Compare -/
def cmpS (a b : BitVec 16) : Int := if cmpI (sz a) (sz b) ≠ 0 then cmpI (sz a) (sz b) else cmpI a.toNat b.toNat
theorem cmpS_lt (a b : BitVec 16) : decide (cmpS a b < 0) = ltS a b := by
  unfold cmpS cmpI ltS
  by_cases h : sz a = sz b
  · simp [h]
    by_cases h2 : a.toNat < b.toNat
    · simp [h2]
    · simp [h2]; split <;> omega
  · by_cases h1 : sz a < sz b
    · simp [h, h1]
    · have : sz b < sz a := by omega
      simp [h, h1, this]
end Go.Abs
