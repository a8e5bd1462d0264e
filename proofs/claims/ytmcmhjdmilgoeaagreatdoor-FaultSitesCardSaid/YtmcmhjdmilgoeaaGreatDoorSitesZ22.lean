/- Part 22 of the proof: Pl, Pl19, Val19, Tol19, Cpt, Nrm19, Aw19, Sit19a, F19Law9. -/
import Derived.Test.YtmcmhjdmilgoeaaGreatDoorSitesZ21
namespace Go.Abs
theorem chk_pos {p : Prop} [Decidable p] {α : Type} {x : Option α} (h : p) : chk p x = x := if_pos h
theorem ifd_pos {p : Prop} [Decidable p] {α : Type} {x y : α} (h : p) : (if decide p = true then x else y) = x := if_pos (decide_eq_true h)
theorem ifd_neg {p : Prop} [Decidable p] {α : Type} {x y : α} (h : ¬ p) : (if decide p = true then x else y) = y := if_neg (by simpa using h)
theorem jn_eq {α β : Type} (K : α → Option β) (x : (α → Option β) → Option β) : jn K x = x K := rfl
theorem optc_t {α β : Type} [Inhabited α] {x : Option α} {k : α → Option β} : optc true x k = x.bind k := rfl
theorem optc_f {α β : Type} [Inhabited α] {x : Option α} {k : α → Option β} : optc false x k = k default := rfl
theorem some_bind {α β : Type} (a : α) (f : α → Option β) : (some a).bind f = f a := rfl
theorem abc_eq {α : Type} [DecidableEq α] {q : Prop} [Decidable q] {x y : Option α} (h : q → x = y) : abc q x y = y := by
  unfold abc both
  split
  · rename_i hq; rw [h hq]; simp
  · rfl
theorem fuel_lt {n : Nat} (h : n ≤ 18446744073709551615) : n < FUEL := by unfold FUEL; omega
theorem getD_drop {α : Type} (x : List α) (n : Nat) (d : α) (h : n < x.length) : x.drop n = x.getD n d :: x.drop (n + 1) := by
  rw [List.drop_eq_getElem_cons h]
  simp [List.getD_eq_getElem?_getD, h]
/-- .. without ways out. -/
theorem fold_up {α S R : Type} (L : Nat → Nat × S → Option R) (x : List α) (d : α) (Inv : Nat → S → Prop) (g : S → α → S) (K : S → Option R)
    (h : ∀ k n s, n < x.length → Inv n s → L (k + 1) (n, s) = L k (n + 1, g s (x.getD n d)))
    (hI : ∀ n s, n < x.length → Inv n s → Inv (n + 1) (g s (x.getD n d)))
    (he : ∀ k s, Inv x.length s → L (k + 1) (x.length, s) = K s) : ∀ c k n s, n + c = x.length → c < k → Inv n s → L k (n, s) = K ((x.drop n).foldl g s)
  | 0, k, n, s, hn, hk, hi => by
    obtain ⟨k, rfl⟩ : ∃ q, k = q + 1 := ⟨k - 1, by omega⟩
    obtain rfl : n = x.length := by omega
    rw [he k s hi, List.drop_eq_nil_of_le (Nat.le_refl _)]; rfl
  | c + 1, k, n, s, hn, hk, hi => by
    obtain ⟨k, rfl⟩ : ∃ q, k = q + 1 := ⟨k - 1, by omega⟩
    have hlt : n < x.length := by omega
    rw [h k n s hlt hi, getD_drop x n d hlt]
    exact fold_up L x d Inv g K h hI he c k (n + 1) _ (by omega) (by omega) (hI n s hlt hi)
/-- A search: the first element of which p holds. -/
theorem find_up {α R : Type} (L : Nat → Nat → Option R) (x : List α) (d : α) (p : α → Bool) (r : Nat → Option R) (K : Option R)
    (h : ∀ k n, n < x.length → L (k + 1) n = if p (x.getD n d) = true then r n else L k (n + 1))
    (he : ∀ k, L (k + 1) x.length = K) : ∀ c k n, n + c = x.length → c < k →
      (∃ m, n ≤ m ∧ m < x.length ∧ p (x.getD m d) = true ∧ L k n = r m ∧ (x.drop n).any p = true) ∨ (L k n = K ∧ (x.drop n).any p = false)
  | 0, k, n, hn, hk => by
    obtain ⟨k, rfl⟩ : ∃ q, k = q + 1 := ⟨k - 1, by omega⟩
    obtain rfl : n = x.length := by omega
    exact .inr ⟨he k, by rw [List.drop_eq_nil_of_le (Nat.le_refl _)]; rfl⟩
  | c + 1, k, n, hn, hk => by
    obtain ⟨k, rfl⟩ : ∃ q, k = q + 1 := ⟨k - 1, by omega⟩
    have hlt : n < x.length := by omega
    rw [h k n hlt, getD_drop x n d hlt]
    by_cases hp : p (x.getD n d) = true
    · rw [if_pos hp]; exact .inl ⟨n, Nat.le_refl _, hlt, hp, rfl, by rw [List.any_cons, hp]; rfl⟩
    · rw [if_neg hp]
      have hp' : p (x.getD n d) = false := by simpa using hp
      rw [List.any_cons, hp', Bool.false_or]
      rcases find_up L x d p r K h he c k (n + 1) (by omega) (by omega) with ⟨m, h1, h2⟩ | h2
      · exact .inl ⟨m, by omega, h2⟩
      · exact .inr h2
/-- .. of which only is asked whether there is one. -/
theorem any_up {α R : Type} (L : Nat → Nat → Option R) (x : List α) (d : α) (p : α → Bool) (r : Option R) (K : Option R)
    (h : ∀ k n, n < x.length → L (k + 1) n = if p (x.getD n d) = true then r else L k (n + 1))
    (he : ∀ k, L (k + 1) x.length = K) (k : Nat) (hk : x.length < k) : L k 0 = if x.any p = true then r else K := by
  rcases find_up L x d p (fun _ => r) K h he x.length k 0 (by omega) hk with ⟨m, _, _, _, h1, h2⟩ | ⟨h1, h2⟩
  · rw [h1, if_pos (by simpa using h2)]
  · rw [h1, if_neg (by simpa using h2)]
end Go.Abs
namespace Go.Abs
/-- the servers of a set -/
def mems (x : BitVec 16) : List Nat := (List.range 16).filter fun i => decide (x.toNat / 2 ^ i % 2 = 1)
theorem bit_eq (x : BitVec 16) (n : Nat) : (((x >>> n) &&& (BitVec.ofInt 16 1)) == (BitVec.ofInt 16 1)) = decide (x.toNat / 2 ^ n % 2 = 1) := by
  have h := bit_toNat x n
  rw [Bool.eq_iff_iff, beq_iff_eq, decide_eq_true_eq, ← h]
  constructor
  · intro e; rw [e]; rfl
  · intro e; exact BitVec.eq_of_toNat_eq e
theorem f78_eq (x : BitVec 16) (n : Nat) (h : n < 16) : f78 x (n : Int) = some (decide (x.toNat / 2 ^ n % 2 = 1)) := by
  unfold f78
  rw [chk_pos (by intro; omega), Int.toNat_natCast, bit_eq]
  have h1 : (decide ((n : Int) ≥ 0)) = true := by simp
  have h2 : (decide ((n : Int) < 16)) = true := by simp; omega
  rw [h1, h2]
  rfl
theorem f53_L0_eq (x : BitVec 16) (K : List Int → Option (List Int)) : ∀ (c k n : Nat) (l : List Int), n + c = 16 → c < k → l.length ≤ n →
    f53_L0 x K k (n, l) = K (l ++ ((List.range' n c).filter fun i => decide (x.toNat / 2 ^ i % 2 = 1)).map fun i : Nat => (i : Int))
  | 0, k, n, l, hn, hk, hl => by
    obtain ⟨k, rfl⟩ : ∃ q, k = q + 1 := ⟨k - 1, by omega⟩
    rw [f53_L0.eq_2, if_neg (by simp; omega)]
    simp
  | c + 1, k, n, l, hn, hk, hl => by
    obtain ⟨k, rfl⟩ : ∃ q, k = q + 1 := ⟨k - 1, by omega⟩
    rw [f53_L0.eq_2, if_pos (by simp; omega), jn_eq, f78_eq x n (by omega), some_bind, List.range'_succ, List.filter_cons]
    by_cases hb : x.toNat / 2 ^ n % 2 = 1
    · rw [if_pos (decide_eq_true hb), chk_pos (by omega), if_pos (decide_eq_true hb)]
      dsimp only
      rw [chk_pos (by omega), f53_L0_eq x K c k (n + 1) _ (by omega) (by omega) (by simp; omega)]
      simp
    · rw [if_neg (by simpa using hb), if_neg (by simpa using hb)]
      dsimp only
      rw [chk_pos (by omega), f53_L0_eq x K c k (n + 1) _ (by omega) (by omega) (by omega)]
theorem f53_eq (x : BitVec 16) : f53 x = some ((mems x).map fun i : Nat => (i : Int)) := by
  unfold f53
  rw [jn_eq, f53_L0_eq x _ 16 FUEL 0 [] rfl (by unfold FUEL; omega) (Nat.zero_le _), List.nil_append, mems, List.range_eq_range']
theorem mems_bsum (x : Nat) : ∀ c n, ((List.range' n c).filter fun i => decide (x / 2 ^ i % 2 = 1)).length = bsum x n c
  | 0, n => rfl
  | c + 1, n => by
    rw [List.range'_succ, List.filter_cons, bsum]
    have hb : x / 2 ^ n % 2 < 2 := Nat.mod_lt _ (by decide)
    split <;> rename_i h
    · have h : x / 2 ^ n % 2 = 1 := by simpa using h
      rw [List.length_cons, mems_bsum x c (n + 1), h]; omega
    · have h : ¬ x / 2 ^ n % 2 = 1 := by simpa using h
      rw [mems_bsum x c (n + 1)]; omega
theorem mems_len (x : BitVec 16) : (mems x).length = sz x := by
  unfold mems
  rw [List.range_eq_range', mems_bsum]
  rfl
theorem f24_eq (x : BitVec 16) : f24 x = some (sz x : Int) := by
  unfold f24
  rw [f53_eq, some_bind, List.length_map, mems_len]
theorem f74_eq (a b : BitVec 16) : ∃ c, f74 a b = some c ∧ (c = 0 ↔ a = b) ∧ (c < 0 ↔ key a < key b) := by
  unfold f74
  rw [f24_eq, f24_eq]
  by_cases h : a = b
  · subst h
    rw [if_pos (by simp)]
    exact ⟨0, rfl, by simp, by simp⟩
  · rw [if_neg (by simpa using h)]
    have hn : a.toNat ≠ b.toNat := fun e => h (BitVec.eq_of_toNat_eq e)
    have ha := a.isLt
    have hb := b.isLt
    rw [some_bind, some_bind]
    unfold key
    by_cases h1 : sz a < sz b
    · refine ⟨-1, ?_, ?_, ?_⟩
      · simp [optc, chk, h1]
      · simp [h]
      · simp; omega
    · by_cases h2 : sz a = sz b
      · by_cases h3 : a.toNat < b.toNat
        · exact ⟨-1, by simp [optc, chk, h2, h3], by simp [h], by simp; omega⟩
        · exact ⟨1, by simp [optc, chk, h2, h3], by simp [h], by simp; omega⟩
      · exact ⟨1, by simp [optc, chk, h1]; omega, by simp [h], by simp; omega⟩
theorem f45_eq (a b : Flt) : ∃ c, f45 a.1 a.2 b.1 b.2 = some c ∧ (c < 0 ↔ keyF a < keyF b) := by
  obtain ⟨c, h1, h2, h3⟩ := f74_eq a.1 b.1
  obtain ⟨d, h4, h5, h6⟩ := f74_eq a.2 b.2
  have k1 := key_lt a.1
  have k2 := key_lt a.2
  have k3 := key_lt b.1
  have k4 := key_lt b.2
  unfold f45 keyF
  rw [h1, h4, some_bind, some_bind]
  by_cases hc : c = 0
  · refine ⟨d, by simp [hc], ?_⟩
    rw [h2.1 hc, h6]; omega
  · refine ⟨c, by simp [hc], ?_⟩
    have : key a.1 ≠ key b.1 := fun e => hc (h2.2 (key_inj' e))
    rw [h3]; omega
theorem f16_eq (b a : Flt) : f16 b.1 b.2 a.1 a.2 = some (cov b a) := by
  unfold f16 f46 cov sub ftyS
  by_cases h : (a.1 &&& ~~~b.1) = 0#16
  · simp [h, optc_t]
  · have e : (a.1 &&& ~~~b.1 == 0#16) = false := by simpa using h
    simp [e, optc_f]
theorem f17_eq (b a : Flt) : f17 b.1 b.2 a.1 a.2 = some (cov b a) := by
  unfold f17 f47 f23 cov sub ftyS
  by_cases h : (a.1 &&& ~~~b.1) = 0#16
  · simp [h, optc_t]
  · have e : (a.1 &&& ~~~b.1 == 0#16) = false := by simpa using h
    simp [e, optc_f]
end Go.Abs
namespace Go.Abs
theorem and_hi (n : Nat) (h : n < 65536) : (n &&& 61440 = 0) ↔ n < 4096 := by
  have e : (n &&& 61440) >>> 12 = n / 4096 := by
    rw [Nat.shiftRight_and_distrib, Nat.shiftRight_eq_div_pow]
    show (n / 4096) &&& 15 = n / 4096
    rw [show (15 : Nat) = 2 ^ 4 - 1 from rfl, Nat.and_two_pow_sub_one_eq_mod]
    omega
  constructor
  · intro h0
    rw [h0] at e
    simp at e
    omega
  · intro hn
    apply Nat.eq_of_testBit_eq
    intro i
    rw [Nat.testBit_and, Nat.zero_testBit]
    by_cases hi : i < 12
    · have : Nat.testBit 61440 i = false := by
        rw [show (61440 : Nat) = 2 ^ 12 * 15 from rfl, Nat.testBit_two_pow_mul]
        simp; omega
      rw [this, Bool.and_false]
    · have : n.testBit i = false := Nat.testBit_lt_two_pow (Nat.lt_of_lt_of_le hn (Nat.pow_le_pow_right (n := 2) (by decide) (by omega : 12 ≤ i)))
      rw [this, Bool.false_and]
theorem outside_eq (x : BitVec 16) : ((x &&& (BitVec.ofInt 16 61440)) == (BitVec.ofInt 16 0)) = decide (x.toNat < 4096) := by
  have h := and_hi x.toNat x.isLt
  rw [Bool.eq_iff_iff, beq_iff_eq, decide_eq_true_eq, ← h]
  constructor
  · intro e
    have := congrArg BitVec.toNat e
    simpa using this
  · intro e
    apply BitVec.eq_of_toNat_eq
    simpa using e
theorem f14_eq (x : List Flt) (h : x.length ≤ 65536) : f14 x = some x := by
  unfold f14
  rw [abc_eq, chk_pos (by omega)]
  · rfl
  · intro h0
    rw [List.eq_nil_of_length_eq_zero h0]
    rfl
end Go.Abs
namespace Go.Abs
end Go.Abs
namespace Go.Abs
section
variable {α : Type} [DecidableEq α]
/-- what the loop holds: the first m of the list done, n3 places kept -/
def CptI (d : α) (x l : List α) (n3 m : Nat) : Prop := l.length = x.length ∧ 0 < m ∧ m ≤ x.length ∧ n3 < m ∧ 0 < n3 ∧ l.take n3 = dd (x.take m) ∧ ∀ j, m ≤ j + 1 → l.getD j d = x.getD j d
theorem take_succ_gD {α : Type} (x : List α) (n : Nat) (d : α) (h : n < x.length) : x.take (n + 1) = x.take n ++ [x.getD n d] := by
  rw [List.take_add_one]
  simp [List.getD_eq_getElem?_getD, h]
theorem ddT_last (d : α) (x : List α) (m : Nat) (h0 : 0 < m) (hm : m ≤ x.length) : (dd (x.take m)).getLast? = some (x.getD (m - 1) d) := by
  rw [dd_last]
  obtain ⟨k, rfl⟩ : ∃ k, m = k + 1 := ⟨m - 1, by omega⟩
  rw [take_succ_gD x k d (by omega)]
  simp
theorem ddT_succ (d : α) (x : List α) (m : Nat) (h0 : 0 < m) (hm : m < x.length) : dd (x.take (m + 1)) = if x.getD m d = x.getD (m - 1) d then dd (x.take m) else dd (x.take m) ++ [x.getD m d] := by
  rw [take_succ_gD x m d hm, dd_snoc]
  unfold ddS
  rw [ddT_last d x m h0 (by omega)]
  by_cases h : x.getD m d = x.getD (m - 1) d
  · rw [if_pos h, if_pos (by rw [h])]
  · rw [if_neg h, if_neg (by intro e; exact h (Option.some.inj e).symm)]
theorem cpt_in {β : Type} (d : α) (x : List α) (n2 : Nat) (L : Nat → Nat × Nat × List α → Option β) (R : Option β) (hn2 : n2 < x.length) (h2 : 0 < n2)
    (hs : ∀ k n3 n4 l, n2 + n4 < x.length → l.length = x.length → n3 < n2 + n4 → 0 < n4 →
      L (k + 1) (n3, n4, l) = if l.getD (n2 + n4) d = l.getD (n2 + (n4 - 1)) d then L k (n3, n4 + 1, l) else L k (n3 + 1, n4 + 1, l.set n3 (l.getD (n2 + n4) d)))
    (hK : ∀ k n3 n4 l, n2 + n4 = x.length → CptI d x l n3 x.length → L (k + 1) (n3, n4, l) = R) : ∀ c k n3 n4 l, n2 + n4 + c = x.length → 0 < n4 → c < k → CptI d x l n3 (n2 + n4) → L k (n3, n4, l) = R
  | 0, k, n3, n4, l, hc, h4, hk, hi => by
    obtain ⟨k, rfl⟩ : ∃ q, k = q + 1 := ⟨k - 1, by omega⟩
    exact hK k _ _ _ (by omega) (by rw [show x.length = n2 + n4 by omega]; exact hi)
  | c + 1, k, n3, n4, l, hc, h4, hk, hi => by
    obtain ⟨k, rfl⟩ : ∃ q, k = q + 1 := ⟨k - 1, by omega⟩
    obtain ⟨i1, i2, i3, i4, i5, i6, i7⟩ := hi
    rw [hs k n3 n4 l (by omega) i1 i4 h4]
    have e1 := i7 (n2 + n4) (by omega)
    have e2 := i7 (n2 + (n4 - 1)) (by omega)
    rw [e1, e2]
    have hd := ddT_succ d x (n2 + n4) (by omega) (by omega)
    rw [show n2 + n4 - 1 = n2 + (n4 - 1) by omega] at hd
    by_cases he : x.getD (n2 + n4) d = x.getD (n2 + (n4 - 1)) d
    · rw [if_pos he] at hd
      rw [if_pos he]
      exact cpt_in d x n2 L R hn2 h2 hs hK c k n3 (n4 + 1) l (by omega) (by omega) (by omega) ⟨i1, by omega, by omega, by omega, i5, by rw [i6, ← hd]; rfl, fun j hj => i7 j (by omega)⟩
    · rw [if_neg he] at hd
      rw [if_neg he]
      refine cpt_in d x n2 L R hn2 h2 hs hK c k (n3 + 1) (n4 + 1) _ (by omega) (by omega) (by omega) ⟨by simp [i1], by omega, by omega, by omega, by omega, ?_, fun j hj => ?_⟩
      · rw [show n2 + (n4 + 1) = n2 + n4 + 1 by omega, hd, ← i6, take_succ_gD _ n3 d (by simp; omega), List.take_set_of_le (Nat.le_refl _)]
        have : n3 < l.length := by omega
        simp [List.getD_eq_getElem?_getD, this]
      · have : n3 ≠ j := by omega
        rw [← i7 j (by omega)]
        simp [List.getD_eq_getElem?_getD, List.getElem?_set_ne this]
theorem ddT_of_ne (d : α) (x : List α) : ∀ n, n ≤ x.length → (∀ j, 0 < j → j < n → x.getD j d ≠ x.getD (j - 1) d) → dd (x.take n) = x.take n
  | 0, _, _ => by simp [dd]
  | n + 1, hn, h => by
    have ih := ddT_of_ne d x n (by omega) fun j h1 h2 => h j h1 (by omega)
    by_cases h0 : n = 0
    · subst h0
      rw [take_succ_gD x 0 d (by omega)]
      simp [dd, ddS]
    · rw [ddT_succ d x n (by omega) (by omega), if_neg (h n (by omega) (by omega)), ih, ← take_succ_gD x n d (by omega)]
/-- the outer loop: ahead of the first pair of equal neighbours -/
theorem cpt_out {β : Type} (d : α) (x : List α) (L : Nat → Nat → Option β) (I : Nat → Option β) (F : List α → Option β)
    (hs : ∀ k n, 0 < n → n < x.length → L (k + 1) n = if x.getD n d = x.getD (n - 1) d then I n else L k (n + 1))
    (hI : ∀ n, 0 < n → n < x.length → CptI d x x n (n + 1) → I n = F (dd x))
    (he : ∀ k, L (k + 1) x.length = F x) : ∀ c k n, n + c = x.length → 0 < n → c < k → (∀ j, 0 < j → j < n → x.getD j d ≠ x.getD (j - 1) d) → L k n = F (dd x)
  | 0, k, n, hc, h0, hk, hi => by
    obtain ⟨k, rfl⟩ : ∃ q, k = q + 1 := ⟨k - 1, by omega⟩
    obtain rfl : n = x.length := by omega
    rw [he]
    have := ddT_of_ne d x x.length (by omega) hi
    rw [List.take_of_length_le (by omega)] at this
    rw [this]
  | c + 1, k, n, hc, h0, hk, hi => by
    obtain ⟨k, rfl⟩ : ∃ q, k = q + 1 := ⟨k - 1, by omega⟩
    rw [hs k n h0 (by omega)]
    by_cases he1 : x.getD n d = x.getD (n - 1) d
    · rw [if_pos he1]
      have hd := ddT_of_ne d x n (by omega) hi
      have hs := ddT_succ d x n (by omega) (by omega)
      rw [if_pos he1, hd] at hs
      exact hI n h0 (by omega) ⟨rfl, by omega, by omega, by omega, h0, hs.symm, fun j _ => rfl⟩
    · rw [if_neg he1]
      refine cpt_out d x L I F hs hI he c k (n + 1) (by omega) (by omega) (by omega) fun j h1 h2 => ?_
      by_cases e : j = n
      · subst e; exact he1
      · exact hi j h1 (by omega)
/-- what is left at the end: the first n3 places -/
theorem cpt_left (d : α) (x l : List α) (n3 : Nat) (h : CptI d x l n3 x.length) (m : Nat) (z : α) : (l.take n3 ++ List.replicate m z).take n3 = dd x := by
  obtain ⟨i1, i2, i3, i4, i5, i6, i7⟩ := h
  rw [List.take_append_of_le_length (by simp; omega), List.take_take, Nat.min_self, i6, List.take_of_length_le (Nat.le_refl _)]
end
end Go.Abs
namespace Go.Abs
theorem f79_eq (x : List Flt) (hx : x.length ≤ 65536) : f79 x = some (isortK keyF x) := by
  unfold f79 sortO; rw [if_pos (by omega)]
theorem fltNe (a b : Flt) : (!((a.1 == b.1) && ((a.2 == b.2) && true))) = (a != b) := by
  rw [Bool.and_true]; rfl
theorem fltEq (a b : Flt) : ((a.1 == b.1) && ((a.2 == b.2) && true)) = (a == b) := by
  rw [Bool.and_true]; rfl
theorem f80_eq (x : List Flt) (hx : x.length ≤ 65536) : f80 x = some (dd x) := by
  unfold f80
  by_cases h : x.length < 2
  · rw [ifd_pos (by omega)]
    match x, h with
    | [], _ => rfl
    | [a], _ => rfl
    | a :: b :: l, h => simp at h; omega
  · rw [ifd_neg (by omega), jn_eq]
    refine cpt_out (default : Flt) x (f80_L0 x fun _ => some x)
      (fun n2 => f80_L1 x n2 (fun p =>
        chk (((p.1 : Nat) : Int) ≤ (((p.2).length : Nat) : Int)) <|
        chk (p.1 + ((p.2).length - p.1) ≤ (p.2).length ∧ 0 < ((p.2).length - p.1)) <|
        chk (((p.1 : Nat) : Int) ≤ ((((p.2.take p.1 ++ List.replicate ((p.2).length - p.1) ((BitVec.ofInt 16 0), (BitVec.ofInt 16 0)))).length : Nat) : Int)) <|
        chk (p.1 ≤ (p.2.take p.1 ++ List.replicate ((p.2).length - p.1) ((BitVec.ofInt 16 0), (BitVec.ofInt 16 0))).length) <|
        some ((p.2.take p.1 ++ List.replicate ((p.2).length - p.1) ((BitVec.ofInt 16 0), (BitVec.ofInt 16 0))).take p.1)) FUEL (n2, 1, x)) some ?_ ?_ ?_ (x.length - 1) FUEL 1 (by omega) (by omega) (fuel_lt (by omega)) (fun j h1 h2 => by omega)
    · intro k n h0 hn
      have ht : (((n : Nat) : Int) - (1 : Int)).toNat = n - 1 := by omega
      rw [f80_L0.eq_2, ifd_pos (by omega), chk_pos (by omega), chk_pos (by omega), chk_pos (by omega), chk_pos (by omega), chk_pos (by omega), ht, fltEq]
      by_cases he : x.getD n default = x.getD (n - 1) default
      · rw [if_pos he, if_pos (by rw [he]; simp), chk_pos (by omega), jn_eq]
      · rw [if_neg he, if_neg (by simpa using he), chk_pos (by omega)]
    · intro n h0 hn hi
      refine cpt_in (default : Flt) x n (f80_L1 x n _) (some (dd x)) hn h0 ?_ ?_ (x.length - n - 1) FUEL n 1 x (by omega) (by omega) (fuel_lt (by omega)) hi
      · intro k n3 n4 l h1 h2 h3 h4
        have ht : (((n4 : Nat) : Int) - (1 : Int)).toNat = n4 - 1 := by omega
        rw [f80_L1.eq_2, ifd_pos (by omega), jn_eq, chk_pos (by omega), chk_pos (by omega), chk_pos (by omega), chk_pos (by omega), chk_pos (by omega), ht, fltNe]
        by_cases he : l.getD (n + n4) default = l.getD (n + (n4 - 1)) default
        · rw [if_pos he, if_neg (by rw [he]; simp)]
          dsimp only
          rw [chk_pos (by omega)]
        · rw [if_neg he, if_pos (by simpa using he), chk_pos (by omega), chk_pos (by omega), chk_pos (by omega), chk_pos (by omega), chk_pos (by omega)]
          dsimp only
          rw [chk_pos (by omega)]
      · intro k n3 n4 l h1 hi
        have hi0 := hi
        obtain ⟨i1, i2, i3, i4, i5, i6, i7⟩ := hi
        rw [f80_L1.eq_2, ifd_neg (by omega)]
        dsimp only
        rw [chk_pos (by omega), chk_pos (by omega), chk_pos (by simp; omega), chk_pos (by simp; omega), cpt_left default x l n3 hi0]
    · intro k
      rw [f80_L0.eq_2, ifd_neg (by omega)]
theorem f81_eq (b a : Flt) : f81 b.1 b.2 a.1 a.2 = some (a != b && cov b a, a.1, a.2) := by
  unfold f81
  have h := fltNe a b
  rw [h, f16_eq]
  cases a != b <;> rfl
theorem f75_eq (x : List Flt) (a : Flt) (hx : x.length ≤ 65536) : ∃ i : Int, f75 x a.1 a.2 = some (i, a.1, a.2) ∧ (decide (i ≥ 0)) = x.any fun b => a != b && cov b a := by
  unfold f75
  rw [jn_eq]
  have := find_up (fun k n => f75_L0 x (fun q => match q with | (w8, w9) => some ((-1 : Int), w8, w9)) k (n, a.1, a.2)) x default (fun b => a != b && cov b a) (fun n => some ((n : Int), a.1, a.2)) (some (-1, a.1, a.2))
    (fun k n hn => by
      dsimp only
      rw [f75_L0.eq_2, if_pos (by simp; omega), f81_eq, some_bind, chk_pos (by omega)]
      cases a != x.getD n default && cov (x.getD n default) a with
      | true => rw [if_pos rfl, if_pos rfl]
      | false => rw [if_neg (by simp), if_neg (by simp), chk_pos (by omega)])
    (fun k => by
      dsimp only
      rw [f75_L0.eq_2, if_neg (by simp)]) x.length FUEL 0 (by omega) (fuel_lt (by omega))
  rcases this with ⟨m, _, _, _, h1, h2⟩ | ⟨h1, h2⟩
  · refine ⟨m, h1, ?_⟩
    rw [List.drop_zero] at h2
    rw [h2]; simp
  · refine ⟨-1, h1, ?_⟩
    rw [List.drop_zero] at h2
    rw [h2]; simp
theorem f48_eq (x : List Flt) (a : Flt) (hx : x.length ≤ 65536) : f48 x a.1 a.2 = some (x.any fun b => a != b && cov b a, a.1, a.2) := by
  obtain ⟨i, h1, h2⟩ := f75_eq x a hx
  unfold f48
  rw [h1, some_bind, h2]
theorem filter_fold {α : Type} (p : α → Bool) (l : List α) : ∀ out : List α, l.foldl (fun out a => if p a then out ++ [a] else out) out = out ++ l.filter p := by
  induction l with
  | nil => intro out; simp
  | cons a l ih =>
    intro out
    rw [List.foldl_cons, ih, List.filter_cons]
    cases p a <;> simp
/-- normal's answer -/
def limF (l : List Flt) : Int × List Flt := if l.length > 100 then (3, []) else (0, l)
theorem f54_L0_eq (r : List Flt) (K : List Flt → Option (Int × List Flt)) (hr : r.length ≤ 65536) : f54_L0 r K FUEL (0, []) = K (r.filter (undF r)) := by
  rw [fold_up (f54_L0 r K) r default (fun n l => l.length ≤ n) (fun out a => if undF r a then out ++ [a] else out) K ?_ ?_ ?_ r.length FUEL 0 [] (by omega) (fuel_lt (by omega)) (Nat.le_refl _)]
  · rw [List.drop_zero, filter_fold, List.nil_append]
  · intro k n s hn hs
    rw [f54_L0.eq_2, ifd_pos (by omega), jn_eq, chk_pos (by omega), chk_pos (by omega), f48_eq _ _ (by omega), some_bind]
    cases h : undF r (r.getD n default) with
    | true =>
      have h' : (r.any fun b => r.getD n default != b && cov b (r.getD n default)) = false := by unfold undF at h; simpa using h
      rw [h', if_pos (by rfl), chk_pos (by omega)]
      dsimp only
      rw [chk_pos (by omega), if_pos rfl]
    | false =>
      have h' : (r.any fun b => r.getD n default != b && cov b (r.getD n default)) = true := by
        unfold undF at h
        cases h2 : (r.any fun b => r.getD n default != b && cov b (r.getD n default)) with
        | true => rfl
        | false => rw [h2] at h; cases h
      rw [h', if_neg (by simp)]
      dsimp only
      rw [chk_pos (by omega), if_neg (by simp)]
  · intro n s hn hs
    split
    · simp; omega
    · omega
  · intro k s hs
    rw [f54_L0.eq_2, ifd_neg (by omega)]
theorem f54_eq (x : List Flt) (hx : x.length ≤ 65536) : f54 x = some (limF (normP x)) := by
  have hl := srtF_len x
  have hi := (isortK_perm (k := keyF) x).length_eq
  unfold f54
  rw [f14_eq x hx, some_bind, f79_eq x hx, some_bind, f80_eq _ (by omega), some_bind, jn_eq]
  refine (f54_L0_eq (srtF x) _ (by omega)).trans ?_
  change (if decide (((normP x).length : Int) > 100) = true then _ else _) = _
  unfold limF
  by_cases h : (normP x).length > 100
  · rw [ifd_pos (by omega), if_pos h]
  · rw [ifd_neg (by omega), if_neg h]
    rfl
/-! ### the reference -/
/-- the reference keeps the first one of some that are equal, and what no other one covers -/
def keepR (x : List Flt) (n : Nat) : Bool := !((List.range x.length).any fun k => cov (x.getD k default) (x.getD n default) && (x.getD k default != x.getD n default || decide (k < n)))
theorem f55_L1_eq (x : List Flt) (n2 : Nat) (K : Bool → Option (List Flt)) (hx : x.length ≤ 65536) (hn : n2 < x.length) : ∀ c k n b, n + c = x.length → c < k →
    f55_L1 x n2 K k (b, n) = K (b && !((List.range' n c).any fun k => cov (x.getD k default) (x.getD n2 default) && (x.getD k default != x.getD n2 default || decide (k < n2))))
  | 0, k, n, b, hc, hk => by
    obtain ⟨k, rfl⟩ : ∃ q, k = q + 1 := ⟨k - 1, by omega⟩
    rw [f55_L1.eq_2, ifd_neg (by omega)]
    simp
  | c + 1, k, n, b, hc, hk => by
    obtain ⟨k, rfl⟩ : ∃ q, k = q + 1 := ⟨k - 1, by omega⟩
    have ih := fun b => f55_L1_eq x n2 K hx hn c k (n + 1) b (by omega) (by omega)
    rw [f55_L1.eq_2, ifd_pos (by omega), jn_eq, f17_eq, some_bind, fltNe, chk_pos (by omega), chk_pos (by omega), chk_pos (by intro; omega), chk_pos (by intro; omega), chk_pos (by
      intro _ h2 h3
      rw [h2, h3]
      rfl)]
    dsimp only
    rw [List.range'_succ, List.any_cons]
    have hd : decide (((n : Nat) : Int) < ((n2 : Nat) : Int)) = decide (n < n2) := by
      rw [Bool.eq_iff_iff, decide_eq_true_eq, decide_eq_true_eq]; omega
    rw [hd]
    cases h : cov (x.getD n default) (x.getD n2 default) && (x.getD n default != x.getD n2 default || decide (n < n2)) with
    | true => rw [if_pos rfl, chk_pos (by omega), ih]; simp
    | false => rw [if_neg (by simp), chk_pos (by omega), ih]; simp
theorem f55_L2_eq (x : List Flt) (n2 : Nat) (K : Nat × List Flt → Option (List Flt)) (l : List Flt) (hl : l.length ≤ 65536) (hn : n2 < x.length) (hx : x.length ≤ 65536) : ∀ c k n, n + c = l.length → c < k → (∀ j, j < n → keyF (l.getD j default) < keyF (x.getD n2 default)) →
    ∃ m, m ≤ l.length ∧ f55_L2 x n2 K k (n, l) = K (m, l) ∧ (∀ j, j < m → keyF (l.getD j default) < keyF (x.getD n2 default)) ∧ (m < l.length → ¬ keyF (l.getD m default) < keyF (x.getD n2 default))
  | 0, k, n, hc, hk, hj => by
    obtain ⟨k, rfl⟩ : ∃ q, k = q + 1 := ⟨k - 1, by omega⟩
    refine ⟨n, by omega, ?_, hj, fun h => by omega⟩
    rw [f55_L2.eq_2]
    have h0 : (decide (((n : Nat) : Int) < (((l).length : Nat) : Int))) = false := by simp; omega
    rw [h0]
    rfl
  | c + 1, k, n, hc, hk, hj => by
    obtain ⟨k, rfl⟩ : ∃ q, k = q + 1 := ⟨k - 1, by omega⟩
    have h0 : (decide (((n : Nat) : Int) < (((l).length : Nat) : Int))) = true := by simp; omega
    obtain ⟨r, h1, h2⟩ := f45_eq (l.getD n default) (x.getD n2 default)
    rw [f55_L2.eq_2, h0, show ((true == true) = true) from rfl, optc_t, h1, some_bind, chk_pos (by intro; omega), chk_pos (by intro; omega), chk_pos (by intro; omega)]
    by_cases hk2 : keyF (l.getD n default) < keyF (x.getD n2 default)
    · have := h2.2 hk2
      rw [if_pos (by simp; omega), chk_pos (by omega)]
      exact f55_L2_eq x n2 K l hl hn hx c k (n + 1) (by omega) (by omega) fun j h => by
        by_cases e : j = n
        · subst e; exact hk2
        · exact hj j (by omega)
    · have : ¬ r < 0 := fun h => hk2 (h2.1 h)
      rw [if_neg (by simp; omega)]
      exact ⟨n, by omega, rfl, hj, fun _ => hk2⟩
theorem keepR_iff (x : List Flt) (n : Nat) (hn : n < x.length) : keepR x n = true ↔ (∀ b, b ∈ x → x.getD n default ≠ b → cov b (x.getD n default) = false) ∧ ∀ k, k < n → x.getD k default ≠ x.getD n default := by
  unfold keepR
  rw [Bool.not_eq_true', List.any_eq_false]
  constructor
  · intro h
    refine ⟨fun b hb hne => ?_, fun k hk e => ?_⟩
    · obtain ⟨j, hj, rfl⟩ := List.getElem_of_mem hb
      have := h j (List.mem_range.2 hj)
      have e : x.getD j default = x[j] := by simp [List.getD_eq_getElem?_getD, hj]
      rw [e] at this
      have h2 : (x[j] != x.getD n default) = true := by simp; exact fun h => hne h.symm
      rw [h2] at this
      simpa using this
    · have := h k (List.mem_range.2 (by omega))
      rw [e, cov_refl, decide_eq_true hk] at this
      simp at this
  · rintro ⟨h1, h2⟩ k hk
    rw [List.mem_range] at hk
    have hmem : x.getD k default ∈ x := by
      rw [List.getD_eq_getElem?_getD, List.getElem?_eq_getElem hk]; exact List.getElem_mem hk
    by_cases e : x.getD n default = x.getD k default
    · have : ¬ k < n := fun h => h2 k h e.symm
      rw [← e, decide_eq_false this]
      simp
    · rw [h1 _ hmem e]; simp
/-- the reference's list, when n places are done -/
def InsI (x : List Flt) (n : Nat) (out : List Flt) : Prop := out.length ≤ n ∧ out.Pairwise (fun a b => keyF a < keyF b) ∧ ∀ a, a ∈ out ↔ ∃ j, j < n ∧ x.getD j default = a ∧ keepR x j = true
theorem f55_L0_eq (x : List Flt) (K : List Flt → Option (List Flt)) (hx : x.length ≤ 65536) : ∀ c k n out, n + c = x.length → c < k → InsI x n out → ∃ out', InsI x x.length out' ∧ f55_L0 x K k (n, out) = K out'
  | 0, k, n, out, hc, hk, hi => by
    obtain ⟨k, rfl⟩ : ∃ q, k = q + 1 := ⟨k - 1, by omega⟩
    refine ⟨out, by rw [show x.length = n by omega]; exact hi, ?_⟩
    rw [f55_L0.eq_2, ifd_neg (by omega)]
  | c + 1, k, n, out, hc, hk, hi => by
    obtain ⟨k, rfl⟩ : ∃ q, k = q + 1 := ⟨k - 1, by omega⟩
    obtain ⟨i1, i2, i3⟩ := hi
    rw [f55_L0.eq_2, ifd_pos (by omega), jn_eq, jn_eq, f55_L1_eq x n _ hx (by omega) x.length FUEL 0 true (by omega) (fuel_lt (by omega)), Bool.true_and, ← List.range_eq_range']
    change ∃ out', _ ∧ (if (!(keepR x n)) = true then _ else _) = _
    cases hkp : keepR x n with
    | false =>
      rw [if_pos (show (!false) = true from rfl)]
      dsimp only
      rw [chk_pos (by omega)]
      refine f55_L0_eq x K hx c k (n + 1) out (by omega) (by omega) ⟨by omega, i2, fun a => (i3 a).trans ?_⟩
      constructor
      · rintro ⟨j, h1, h2⟩; exact ⟨j, by omega, h2⟩
      · rintro ⟨j, h1, h2, h3⟩
        have : j ≠ n := by rintro rfl; rw [hkp] at h3; cases h3
        exact ⟨j, by omega, h2, h3⟩
    | true =>
      rw [if_neg (by simp), jn_eq]
      obtain ⟨m, m1, m2, m3, m4⟩ := f55_L2_eq x n (fun p =>
        chk (((p.1 : Nat) : Int) ≤ (((p.2).length : Nat) : Int)) <|
        chk ((0 + p.1) * 4 ≤ 140737488355328) <|
        chk (((n : Nat) : Int) < (((x).length : Nat) : Int)) <|
        chk ((((p.2.take p.1)).length + 1) * 4 ≤ 140737488355328) <|
        chk (((p.1 : Nat) : Int) ≤ (((p.2).length : Nat) : Int)) <|
        chk (((((p.2.take p.1) ++ [((x.getD n (default : BitVec 16 × BitVec 16)).1, (x.getD n (default : BitVec 16 × BitVec 16)).2)])).length + ((p.2).length - p.1)) * 4 ≤ 140737488355328) <|
        (fun (l9 : List (BitVec 16 × BitVec 16)) =>
          chk ((((n : Nat) : Int) + (1 : Int)) ≤ 9223372036854775807) <|
          (f55_L0 x K k) ((n + 1), l9)) (((p.2.take p.1) ++ [((x.getD n (default : BitVec 16 × BitVec 16)).1, (x.getD n (default : BitVec 16 × BitVec 16)).2)]) ++ (p.2.drop p.1))) out (by omega) (by omega) hx out.length FUEL 0 (by omega) (fuel_lt (by omega)) (fun j h => by omega)
      have hnew : x.getD n default ∉ out := by
        intro h
        obtain ⟨j, h1, h2, h3⟩ := (i3 _).1 h
        exact ((keepR_iff x n (by omega)).1 hkp).2 j h1 h2
      have hs := strict_insert (k := keyF) (fun _ _ => keyF_inj) out (x.getD n default) default m m1 i2 m3 m4 hnew
      have hlen : (out.take m).length ≤ n := by simp; omega
      obtain ⟨out', h1, h2⟩ := f55_L0_eq x K hx c k (n + 1) (out.take m ++ x.getD n default :: out.drop m) (by omega) (by omega) ⟨by simp; omega, hs, fun a => by
        rw [mem_insert_at, i3]
        constructor
        · rintro (rfl | ⟨j, h1, h2⟩)
          · exact ⟨n, by omega, rfl, hkp⟩
          · exact ⟨j, by omega, h2⟩
        · rintro ⟨j, h1, h2, h3⟩
          by_cases e : j = n
          · subst e; exact .inl h2.symm
          · exact .inr ⟨j, by omega, h2, h3⟩⟩
      refine ⟨out', h1, ?_⟩
      refine m2.trans ?_
      dsimp only
      rw [chk_pos (by omega), chk_pos (by omega), chk_pos (by omega), chk_pos (by omega), chk_pos (by omega), chk_pos (by simp; omega), chk_pos (by omega), ← h2]
      rw [List.append_assoc]
      rfl
theorem f55_eq (x : List Flt) (hx : x.length ≤ 65536) : f55 x = some (normP x) := by
  unfold f55
  rw [jn_eq]
  obtain ⟨out', ⟨i1, i2, i3⟩, h2⟩ := f55_L0_eq x (fun l => some l) hx x.length FUEL 0 [] (by omega) (fuel_lt (by omega)) ⟨Nat.le_refl _, .nil, fun a => by simp⟩
  refine h2.trans ?_
  congr 1
  refine strict_uniq (k := keyF) (fun _ _ => keyF_inj) _ _ (fun a => ?_) i2 (normP_strict x)
  rw [i3, mem_normP]
  constructor
  · rintro ⟨j, h1, rfl, h3⟩
    refine ⟨?_, ((keepR_iff x j h1).1 h3).1⟩
    rw [List.getD_eq_getElem?_getD, List.getElem?_eq_getElem h1]; exact List.getElem_mem h1
  · rintro ⟨h1, h2⟩
    -- the first place of a
    have hex : ∃ j, j < x.length ∧ x.getD j default = a := by
      obtain ⟨j, hj, rfl⟩ := List.getElem_of_mem h1
      exact ⟨j, hj, by simp [List.getD_eq_getElem?_getD, hj]⟩
    have hmin : ∀ n, (∃ j, j < n ∧ j < x.length ∧ x.getD j default = a) → ∃ j, j < x.length ∧ x.getD j default = a ∧ ∀ k, k < j → x.getD k default ≠ a := by
      intro n
      induction n with
      | zero => rintro ⟨j, h, _⟩; omega
      | succ n ih =>
        intro h
        by_cases hb : ∃ j, j < n ∧ j < x.length ∧ x.getD j default = a
        · exact ih hb
        · obtain ⟨j, j1, j2, j3⟩ := h
          refine ⟨j, j2, j3, fun k hk e => hb ⟨k, by omega, by omega, e⟩⟩
    obtain ⟨j, j1, j2⟩ := hex
    obtain ⟨j, j1, j2, j3⟩ := hmin (j + 1) ⟨j, by omega, j1, j2⟩
    exact ⟨j, j1, j2, (keepR_iff x j j1).2 ⟨by rw [j2]; exact h2, by rw [j2]; exact j3⟩⟩
/-! ### Normalize -/
theorem f52_eq (x : List Flt) : f52 x = some ((limF x).2, (limF x).1) := by
  unfold f52 limF
  by_cases h : x.length > 100
  · rw [ifd_pos (by omega), if_pos h]
  · rw [ifd_neg (by omega), if_neg h]
end Go.Abs
namespace Go.Abs
theorem f12_true : f12 = some true := by kernel_rfl
end Go.Abs
namespace Go.Abs
def ExS : List (BitVec 16) → Nat → Nat → Flt → Flt → Prop
  | [], b, c, a, z => b = 0 ∧ c = 0 ∧ z = a
  | s :: r, b, c, a, z => (∃ d, b = d + 1 ∧ ExS r d c (a.1 ||| s, a.2) z) ∨ (∃ d, c = d + 1 ∧ ExS r b d (a.1, a.2 ||| s) z) ∨ ExS r b c a z
def GnS (e : Nat) : List (BitVec 16) → Nat → Nat → Flt → Flt → Prop
  | [], b, c, a, z => b + c ≤ e ∧ z = a
  | s :: r, b, c, a, z => (∃ d, b = d + 1 ∧ GnS e r d c (a.1 ||| s, a.2) z) ∨ (∃ d, c = d + 1 ∧ GnS e r b d (a.1, a.2 ||| s) z) ∨ GnS e r b c a z
theorem GnS_succ (e : Nat) : ∀ (L : List (BitVec 16)) (b c : Nat) (a z : Flt), GnS (e + 1) L b c a z ↔ (∃ d, b = d + 1 ∧ GnS e L d c a z) ∨ (∃ d, c = d + 1 ∧ GnS e L b d a z) ∨ GnS e L b c a z
  | [], b, c, a, z => by
    unfold GnS
    constructor
    · rintro ⟨h, rfl⟩
      rcases Nat.eq_zero_or_pos b with hb | hb
      · rcases Nat.eq_zero_or_pos c with hc | hc
        · exact .inr (.inr ⟨by omega, rfl⟩)
        · exact .inr (.inl ⟨c - 1, by omega, by omega, rfl⟩)
      · exact .inl ⟨b - 1, by omega, by omega, rfl⟩
    · rintro (⟨d, rfl, h, rfl⟩ | ⟨d, rfl, h, rfl⟩ | ⟨h, rfl⟩)
      · exact ⟨by omega, rfl⟩
      · exact ⟨by omega, rfl⟩
      · exact ⟨by omega, rfl⟩
  | s :: r, b, c, a, z => by
    have ih := GnS_succ e r
    unfold GnS
    simp only [ih]
    constructor
    · rintro (⟨d, rfl, (⟨f, rfl, h⟩ | ⟨f, rfl, h⟩ | h)⟩ | ⟨d, rfl, (⟨f, rfl, h⟩ | ⟨f, rfl, h⟩ | h)⟩ | ⟨f, rfl, h⟩ | ⟨f, rfl, h⟩ | h)
      · exact .inl ⟨_, rfl, .inl ⟨_, rfl, h⟩⟩
      · exact .inr (.inl ⟨_, rfl, .inl ⟨_, rfl, h⟩⟩)
      · exact .inr (.inr (.inl ⟨_, rfl, h⟩))
      · exact .inl ⟨_, rfl, .inr (.inl ⟨_, rfl, h⟩)⟩
      · exact .inr (.inl ⟨_, rfl, .inr (.inl ⟨_, rfl, h⟩)⟩)
      · exact .inr (.inr (.inr (.inl ⟨_, rfl, h⟩)))
      · exact .inl ⟨_, rfl, .inr (.inr h)⟩
      · exact .inr (.inl ⟨_, rfl, .inr (.inr h)⟩)
      · exact .inr (.inr (.inr (.inr h)))
    · rintro (⟨d, rfl, (⟨f, rfl, h⟩ | ⟨f, rfl, h⟩ | h)⟩ | ⟨d, rfl, (⟨f, rfl, h⟩ | ⟨f, rfl, h⟩ | h)⟩ | ⟨f, rfl, h⟩ | ⟨f, rfl, h⟩ | h)
      · exact .inl ⟨_, rfl, .inl ⟨_, rfl, h⟩⟩
      · exact .inr (.inl ⟨_, rfl, .inl ⟨_, rfl, h⟩⟩)
      · exact .inr (.inr (.inl ⟨_, rfl, h⟩))
      · exact .inl ⟨_, rfl, .inr (.inl ⟨_, rfl, h⟩)⟩
      · exact .inr (.inl ⟨_, rfl, .inr (.inl ⟨_, rfl, h⟩)⟩)
      · exact .inr (.inr (.inr (.inl ⟨_, rfl, h⟩)))
      · exact .inl ⟨_, rfl, .inr (.inr h)⟩
      · exact .inr (.inl ⟨_, rfl, .inr (.inr h)⟩)
      · exact .inr (.inr (.inr (.inr h)))
def neS (S : List (BitVec 16)) : List (BitVec 16) := S.filter fun s => !(s == 0#16)
theorem ExS_GnS : ∀ (S : List (BitVec 16)) (b c : Nat) (a z : Flt), ExS S b c a z ↔ GnS (S.length - (neS S).length) (neS S) b c a z
  | [], b, c, a, z => by
    show (b = 0 ∧ c = 0 ∧ z = a) ↔ (b + c ≤ 0 ∧ z = a)
    constructor
    · rintro ⟨rfl, rfl, rfl⟩; exact ⟨Nat.le_refl _, rfl⟩
    · rintro ⟨h, rfl⟩; exact ⟨by omega, by omega, rfl⟩
  | s :: r, b, c, a, z => by
    have ih := ExS_GnS r
    have hle : (neS r).length ≤ r.length := List.length_filter_le _ _
    by_cases hs : s = 0#16
    · subst hs
      have e1 : neS (0#16 :: r) = neS r := by unfold neS; rw [List.filter_cons_of_neg (by simp)]
      rw [e1, List.length_cons, show r.length + 1 - (neS r).length = (r.length - (neS r).length) + 1 from by omega, GnS_succ]
      unfold ExS
      simp only [ih, BitVec.or_zero]
    · have e1 : neS (s :: r) = s :: neS r := by unfold neS; rw [List.filter_cons_of_pos (by simpa using hs)]
      rw [e1, List.length_cons, List.length_cons, show r.length + 1 - ((neS r).length + 1) = r.length - (neS r).length from by omega]
      unfold ExS GnS
      simp only [ih]
/-- the program's list -/
def genL (e : Nat) : List (BitVec 16) → Nat → Nat → Flt → List Flt
  | [], b, c, a => if b + c ≤ e then [a] else []
  | s :: r, b, c, a => (if 0 < b then genL e r (b - 1) c (a.1 ||| s, a.2) else []) ++ (if 0 < c then genL e r b (c - 1) (a.1, a.2 ||| s) else []) ++ genL e r b c a
theorem mem_genL (e : Nat) : ∀ (L : List (BitVec 16)) (b c : Nat) (a z : Flt), z ∈ genL e L b c a ↔ GnS e L b c a z
  | [], b, c, a, z => by
    unfold genL GnS
    split <;> simp [*]
  | s :: r, b, c, a, z => by
    have ih := mem_genL e r
    unfold genL GnS
    rw [List.mem_append, List.mem_append]
    constructor
    · rintro ((h | h) | h)
      · split at h
        · exact .inl ⟨b - 1, by omega, (ih _ _ _ _).1 h⟩
        · cases h
      · split at h
        · exact .inr (.inl ⟨c - 1, by omega, (ih _ _ _ _).1 h⟩)
        · cases h
      · exact .inr (.inr ((ih _ _ _ _).1 h))
    · rintro (⟨d, rfl, h⟩ | ⟨d, rfl, h⟩ | h)
      · refine .inl (.inl ?_)
        rw [if_pos (by omega)]
        exact (ih _ _ _ _).2 h
      · refine .inl (.inr ?_)
        rw [if_pos (by omega)]
        exact (ih _ _ _ _).2 h
      · exact .inr ((ih _ _ _ _).2 h)
theorem genL_len (e : Nat) : ∀ (L : List (BitVec 16)) (b c : Nat) (a : Flt), (genL e L b c a).length ≤ 3 ^ L.length
  | [], b, c, a => by unfold genL; split <;> simp
  | s :: r, b, c, a => by
    unfold genL
    rw [List.length_append, List.length_append, List.length_cons, Nat.pow_succ]
    have h1 := genL_len e r (b - 1) c (a.1 ||| s, a.2)
    have h2 := genL_len e r b (c - 1) (a.1, a.2 ||| s)
    have h3 := genL_len e r b c a
    have : (if 0 < b then genL e r (b - 1) c (a.1 ||| s, a.2) else []).length ≤ 3 ^ r.length := by
      split
      · exact h1
      · exact Nat.zero_le _
    have : (if 0 < c then genL e r b (c - 1) (a.1, a.2 ||| s) else []).length ≤ 3 ^ r.length := by
      split
      · exact h2
      · exact Nat.zero_le _
    omega
/-! ### the reference's numbers -/
def popN : Nat → Nat → Nat
  | 0, _ => 0
  | m + 1, x => x % 2 + popN m (x / 2)
def disN : Nat → Nat → Nat → Bool
  | 0, _, _ => true
  | m + 1, x, y => !(x % 2 == 1 && y % 2 == 1) && disN m (x / 2) (y / 2)
def unS : List (BitVec 16) → Nat → BitVec 16 → BitVec 16
  | [], _, w => w
  | s :: r, x, w => unS r (x / 2) (if x % 2 = 1 then w ||| s else w)
theorem ExS_num : ∀ (S : List (BitVec 16)) (b c : Nat) (a z : Flt), ExS S b c a z ↔ ∃ x, x < 2 ^ S.length ∧ popN S.length x = b ∧ ∃ y, y < 2 ^ S.length ∧ popN S.length y = c ∧ disN S.length x y = true ∧ z = (unS S x a.1, unS S y a.2)
  | [], b, c, a, z => by
    unfold ExS
    constructor
    · rintro ⟨rfl, rfl, rfl⟩
      exact ⟨0, by simp, rfl, 0, by simp, rfl, rfl, rfl⟩
    · rintro ⟨x, hx, rfl, y, hy, rfl, _, rfl⟩
      exact ⟨rfl, rfl, rfl⟩
  | s :: r, b, c, a, z => by
    have ih := ExS_num r
    unfold ExS
    simp only [ih, List.length_cons, Nat.pow_succ]
    constructor
    · rintro (⟨d, rfl, x, hx, h1, y, hy, h2, h3, rfl⟩ | ⟨d, rfl, x, hx, h1, y, hy, h2, h3, rfl⟩ | ⟨x, hx, h1, y, hy, h2, h3, rfl⟩)
      · have e1 : (2 * x + 1) / 2 = x := by omega
        have e2 : (2 * x + 1) % 2 = 1 := by omega
        have e3 : 2 * y / 2 = y := by omega
        have e4 : 2 * y % 2 = 0 := by omega
        refine ⟨2 * x + 1, by omega, ?_, 2 * y, by omega, ?_, ?_, ?_⟩
        · rw [popN, e1, e2]; omega
        · rw [popN, e3, e4]; omega
        · rw [disN, e1, e2, e3, e4, h3]; rfl
        · rw [unS, unS, e1, e2, e3, e4, if_pos rfl, if_neg (by decide)]
      · have e1 : (2 * y + 1) / 2 = y := by omega
        have e2 : (2 * y + 1) % 2 = 1 := by omega
        have e3 : 2 * x / 2 = x := by omega
        have e4 : 2 * x % 2 = 0 := by omega
        refine ⟨2 * x, by omega, ?_, 2 * y + 1, by omega, ?_, ?_, ?_⟩
        · rw [popN, e3, e4]; omega
        · rw [popN, e1, e2]; omega
        · rw [disN, e1, e2, e3, e4, h3]; rfl
        · rw [unS, unS, e1, e2, e3, e4, if_pos rfl, if_neg (by decide)]
      · have e1 : 2 * y / 2 = y := by omega
        have e2 : 2 * y % 2 = 0 := by omega
        have e3 : 2 * x / 2 = x := by omega
        have e4 : 2 * x % 2 = 0 := by omega
        refine ⟨2 * x, by omega, ?_, 2 * y, by omega, ?_, ?_, ?_⟩
        · rw [popN, e3, e4]; omega
        · rw [popN, e1, e2]; omega
        · rw [disN, e1, e2, e3, e4, h3]; rfl
        · rw [unS, unS, e1, e2, e3, e4, if_neg (by decide), if_neg (by decide)]
    · rintro ⟨x, hx, h1, y, hy, h2, h3, rfl⟩
      rw [popN] at h1 h2
      rw [disN, Bool.and_eq_true] at h3
      rcases Nat.mod_two_eq_zero_or_one x with ex | ex
      · rcases Nat.mod_two_eq_zero_or_one y with ey | ey
        · refine .inr (.inr ⟨x / 2, by omega, by omega, y / 2, by omega, by omega, h3.2, ?_⟩)
          rw [unS, unS, if_neg (by omega), if_neg (by omega)]
        · refine .inr (.inl ⟨c - 1, by omega, x / 2, by omega, by omega, y / 2, by omega, by omega, h3.2, ?_⟩)
          rw [unS, unS, if_neg (by omega), if_pos ey]
      · rcases Nat.mod_two_eq_zero_or_one y with ey | ey
        · refine .inl ⟨b - 1, by omega, x / 2, by omega, by omega, y / 2, by omega, by omega, h3.2, ?_⟩
          rw [unS, unS, if_pos ex, if_neg (by omega)]
        · exfalso
          have := h3.1
          rw [ex, ey] at this
          cases this
/-- the reference's list -/
def refL (S : List (BitVec 16)) (b c : Nat) : List Flt :=
  (List.range (2 ^ S.length)).flatMap fun x => if popN S.length x = b then ((List.range (2 ^ S.length)).filter fun y => decide (popN S.length y = c) && disN S.length x y).map fun y => (unS S x 0#16, unS S y 0#16) else []
theorem mem_refL {S : List (BitVec 16)} {b c : Nat} {z : Flt} : z ∈ refL S b c ↔ ExS S b c (0#16, 0#16) z := by
  rw [ExS_num]
  unfold refL
  rw [List.mem_flatMap]
  constructor
  · rintro ⟨x, hx, h⟩
    split at h
    · rename_i hb
      obtain ⟨y, hy, rfl⟩ := List.mem_map.1 h
      rw [List.mem_filter, Bool.and_eq_true, decide_eq_true_eq] at hy
      exact ⟨x, List.mem_range.1 hx, hb, y, List.mem_range.1 hy.1, hy.2.1, hy.2.2, rfl⟩
    · cases h
  · rintro ⟨x, hx, h1, y, hy, h2, h3, rfl⟩
    refine ⟨x, List.mem_range.2 hx, ?_⟩
    rw [if_pos h1]
    exact List.mem_map.2 ⟨y, List.mem_filter.2 ⟨List.mem_range.2 hy, by rw [decide_eq_true h2, h3]; rfl⟩, rfl⟩
theorem sites_eq {S : List (BitVec 16)} {b c : Nat} : normP (genL (S.length - (neS S).length) (neS S) b c (0#16, 0#16)) = normP (refL S b c) :=
  normP_congr fun z => by rw [mem_genL, mem_refL, ExS_GnS]
end Go.Abs
namespace Go.Abs
theorem f58a_eq (L S : List (BitVec 16)) (hLS : L.length ≤ S.length) (hS : S.length ≤ 6) : ∀ (m k i b c : Nat) (a : Flt) (out : List Flt), i + m = L.length → m < k → b ≤ 100 → c ≤ 100 → out.length + 3 ^ m ≤ 1000000 →
    f58a k (i : Int) (b : Int) (c : Int) a.1 a.2 L S out = some (L, S, out ++ genL (S.length - L.length) (L.drop i) b c a)
  | 0, k, i, b, c, a, out, hi, hk, hb, hc, ho => by
    obtain ⟨k, rfl⟩ : ∃ q, k = q + 1 := ⟨k - 1, by omega⟩
    rw [f58a.eq_2, if_pos (by simp; omega), jn_eq, chk_pos (by omega), chk_pos (by omega), List.drop_eq_nil_of_le (by omega), genL]
    by_cases h : b + c ≤ S.length - L.length
    · rw [ifd_pos (by omega), if_pos h, chk_pos (by simp at ho; omega)]
    · rw [ifd_neg (by omega), if_neg h, List.append_nil]
  | m + 1, k, i, b, c, a, out, hi, hk, hb, hc, ho => by
    obtain ⟨k, rfl⟩ : ∃ q, k = q + 1 := ⟨k - 1, by omega⟩
    have ih := f58a_eq L S hLS hS m k (i + 1)
    have ei : ((i : Int) + 1) = ((i + 1 : Nat) : Int) := rfl
    rw [Nat.pow_succ] at ho
    have l1 := genL_len (S.length - L.length) (L.drop (i + 1))
    have el : (L.drop (i + 1)).length = m := by simp; omega
    rw [f58a.eq_2, if_neg (by simp; omega), jn_eq, getD_drop L i 0#16 (by omega), genL, Int.toNat_natCast, ei]
    have hB : ∀ out2 : List Flt, out2.length + 3 ^ m + 3 ^ m ≤ 1000000 → (jn (fun ((l15, l16, l17) : List (BitVec 16) × List (BitVec 16) × (List (BitVec 16 × BitVec 16))) =>
        ((f58a k) ((i + 1 : Nat) : Int) (b : Int) (c : Int) a.1 a.2 l16 l15 l17).bind fun (r18 : List (BitVec 16) × List (BitVec 16) × (List (BitVec 16 × BitVec 16))) =>
        chk (-9223372036854775808 ≤ ((i + 1 : Nat) : Int) ∧ ((i + 1 : Nat) : Int) ≤ 9223372036854775807) <|
        some (r18.1, r18.2.1, r18.2.2)
        ) fun (K3 : (List (BitVec 16) × List (BitVec 16) × (List (BitVec 16 × BitVec 16))) → Option (List (BitVec 16) × List (BitVec 16) × (List (BitVec 16 × BitVec 16)))) =>
        if (decide ((c : Int) > (0 : Int))) = true then (
        ((f58a k) ((i + 1 : Nat) : Int) (b : Int) ((c : Int) - (1 : Int)) a.1 (a.2 ||| (L.getD i 0#16)) L S out2).bind fun (r14 : List (BitVec 16) × List (BitVec 16) × (List (BitVec 16 × BitVec 16))) =>
        chk (-9223372036854775808 ≤ ((i + 1 : Nat) : Int) ∧ ((i + 1 : Nat) : Int) ≤ 9223372036854775807) <|
        chk (-9223372036854775808 ≤ ((c : Int) - (1 : Int)) ∧ ((c : Int) - (1 : Int)) ≤ 9223372036854775807) <|
        chk (0 ≤ (i : Int) ∧ (i : Int) < (((L).length : Nat) : Int)) <|
        chk (i < (L).length) <|
        K3 (r14.2.1, r14.1, r14.2.2)
        ) else (
        K3 (S, L, out2)
        )) = some (L, S, out2 ++ ((if 0 < c then genL (S.length - L.length) (L.drop (i + 1)) b (c - 1) (a.1, a.2 ||| L.getD i 0#16) else []) ++ genL (S.length - L.length) (L.drop (i + 1)) b c a)) := by
      intro out2 h2
      rw [jn_eq]
      by_cases h : 0 < c
      · have h3 := ih b (c - 1) (a.1, a.2 ||| L.getD i 0#16) out2 (by omega) (by omega) hb (by omega) (by omega)
        dsimp only at h3
        rw [ifd_pos (by omega), if_pos h, show (c : Int) - 1 = ((c - 1 : Nat) : Int) from by omega, h3, some_bind, chk_pos (by omega), chk_pos (by omega), chk_pos (by omega), chk_pos (by omega)]
        dsimp only
        have l2 := l1 b (c - 1) (a.1, a.2 ||| L.getD i 0#16)
        rw [el] at l2
        rw [ih b c a _ (by omega) (by omega) hb hc (by rw [List.length_append]; omega), some_bind, chk_pos (by omega), List.append_assoc]
      · rw [ifd_neg (by omega), if_neg h]
        dsimp only
        rw [ih b c a out2 (by omega) (by omega) hb hc (by omega), some_bind, chk_pos (by omega), List.nil_append]
    by_cases h : 0 < b
    · have h3 := ih (b - 1) c (a.1 ||| L.getD i 0#16, a.2) out (by omega) (by omega) (by omega) hc (by omega)
      dsimp only at h3
      have l2 := l1 (b - 1) c (a.1 ||| L.getD i 0#16, a.2)
      rw [el] at l2
      rw [ifd_pos (by omega), if_pos h, show (b : Int) - 1 = ((b - 1 : Nat) : Int) from by omega, h3, some_bind, chk_pos (by omega), chk_pos (by omega), chk_pos (by omega), chk_pos (by omega)]
      refine (hB _ (by rw [List.length_append]; omega)).trans ?_
      simp only [List.append_assoc]
    · rw [ifd_neg (by omega), if_neg h]
      refine (hB _ (by omega)).trans ?_
      simp only [List.nil_append]
theorem f58_eq (L S : List (BitVec 16)) (hLS : L.length ≤ S.length) (hS : S.length ≤ 6) : ∀ (m k i b c : Nat) (a : Flt), i + m = L.length → m < k → b ≤ 100 → c ≤ 100 →
    f58 k (i : Int) (b : Int) (c : Int) a.1 a.2 L S = some (L, S, genL (S.length - L.length) (L.drop i) b c a)
  | 0, k, i, b, c, a, hi, hk, hb, hc => by
    obtain ⟨k, rfl⟩ : ∃ q, k = q + 1 := ⟨k - 1, by omega⟩
    rw [f58.eq_2, if_pos (by simp; omega), jn_eq, chk_pos (by omega), chk_pos (by omega), List.drop_eq_nil_of_le (by omega), genL]
    by_cases h : b + c ≤ S.length - L.length
    · rw [ifd_pos (by omega), if_pos h]
    · rw [ifd_neg (by omega), if_neg h]
  | m + 1, k, i, b, c, a, hi, hk, hb, hc => by
    obtain ⟨k, rfl⟩ : ∃ q, k = q + 1 := ⟨k - 1, by omega⟩
    have ihA := fun b c a out => f58a_eq L S hLS hS m FUEL (i + 1) b c a out (by omega) (fuel_lt (by omega))
    have ih := f58_eq L S hLS hS m k (i + 1)
    have ei : ((i : Int) + 1) = ((i + 1 : Nat) : Int) := rfl
    have l1 := genL_len (S.length - L.length) (L.drop (i + 1))
    have el : (L.drop (i + 1)).length = m := by simp; omega
    have hp : 3 ^ m ≤ 3 ^ 6 := Nat.pow_le_pow_right (by decide) (by omega)
    have hp0 : 0 < 3 ^ m := Nat.pow_pos (by decide)
    rw [f58.eq_2, if_neg (by simp; omega), jn_eq, getD_drop L i 0#16 (by omega), genL, Int.toNat_natCast, ei]
    have hB : ∀ out2 : List Flt, out2.length + 3 ^ m + 3 ^ m ≤ 1000000 → (jn (fun ((l14, l15, l16) : List (BitVec 16) × List (BitVec 16) × (List (BitVec 16 × BitVec 16))) =>
        (f58a FUEL ((i + 1 : Nat) : Int) (b : Int) (c : Int) a.1 a.2 l15 l14 l16).bind fun (r17 : List (BitVec 16) × List (BitVec 16) × (List (BitVec 16 × BitVec 16))) =>
        chk (-9223372036854775808 ≤ ((i + 1 : Nat) : Int) ∧ ((i + 1 : Nat) : Int) ≤ 9223372036854775807) <|
        some (r17.1, r17.2.1, r17.2.2)
        ) fun (K3 : (List (BitVec 16) × List (BitVec 16) × (List (BitVec 16 × BitVec 16))) → Option (List (BitVec 16) × List (BitVec 16) × (List (BitVec 16 × BitVec 16)))) =>
        if (decide ((c : Int) > (0 : Int))) = true then (
        (f58a FUEL ((i + 1 : Nat) : Int) (b : Int) ((c : Int) - (1 : Int)) a.1 (a.2 ||| (L.getD i 0#16)) L S out2).bind fun (r13 : List (BitVec 16) × List (BitVec 16) × (List (BitVec 16 × BitVec 16))) =>
        chk (-9223372036854775808 ≤ ((i + 1 : Nat) : Int) ∧ ((i + 1 : Nat) : Int) ≤ 9223372036854775807) <|
        chk (-9223372036854775808 ≤ ((c : Int) - (1 : Int)) ∧ ((c : Int) - (1 : Int)) ≤ 9223372036854775807) <|
        chk (0 ≤ (i : Int) ∧ (i : Int) < (((L).length : Nat) : Int)) <|
        chk (i < (L).length) <|
        K3 (r13.2.1, r13.1, r13.2.2)
        ) else (
        K3 (S, L, out2)
        )) = some (L, S, out2 ++ ((if 0 < c then genL (S.length - L.length) (L.drop (i + 1)) b (c - 1) (a.1, a.2 ||| L.getD i 0#16) else []) ++ genL (S.length - L.length) (L.drop (i + 1)) b c a)) := by
      intro out2 h2
      rw [jn_eq]
      by_cases h : 0 < c
      · have h3 := ihA b (c - 1) (a.1, a.2 ||| L.getD i 0#16) out2 hb (by omega) (by omega)
        dsimp only at h3
        rw [ifd_pos (by omega), if_pos h, show (c : Int) - 1 = ((c - 1 : Nat) : Int) from by omega, h3, some_bind, chk_pos (by omega), chk_pos (by omega), chk_pos (by omega), chk_pos (by omega)]
        dsimp only
        have l2 := l1 b (c - 1) (a.1, a.2 ||| L.getD i 0#16)
        rw [el] at l2
        rw [ihA b c a _ hb hc (by rw [List.length_append]; omega), some_bind, chk_pos (by omega), List.append_assoc]
      · rw [ifd_neg (by omega), if_neg h]
        dsimp only
        rw [ihA b c a out2 hb hc (by omega), some_bind, chk_pos (by omega), List.nil_append]
    by_cases h : 0 < b
    · have h3 := ih (b - 1) c (a.1 ||| L.getD i 0#16, a.2) (by omega) (by omega) (by omega) hc
      dsimp only at h3
      have l2 := l1 (b - 1) c (a.1 ||| L.getD i 0#16, a.2)
      rw [el] at l2
      rw [ifd_pos (by omega), if_pos h, show (b : Int) - 1 = ((b - 1 : Nat) : Int) from by omega, h3, some_bind, chk_pos (by omega), chk_pos (by omega), chk_pos (by omega), chk_pos (by omega)]
      refine (hB _ (by dsimp only; omega)).trans ?_
      simp only [List.append_assoc]
    · rw [ifd_neg (by omega), if_neg h]
      refine (hB _ (by simp; omega)).trans ?_
      simp only [List.nil_append]
/-! ### the program -/
def badR (x : List (BitVec 16)) : Bool := x.any fun s => decide (s.toNat ≥ 4096)
def ovF : List (BitVec 16) → BitVec 16 → Bool
  | [], _ => false
  | s :: r, w => !((s &&& w) == 0#16) || ovF r (w ||| s)
theorem neg4095 : ~~~(BitVec.ofInt 16 4095) = BitVec.ofInt 16 61440 := by decide
theorem f32_L0_eq (x : List (BitVec 16)) (hx : x.length ≤ 6) (K : Unit → Option (Int × List Flt)) : f32_L0 x K FUEL 0 = if badR x = true then some (7, []) else K () := by
  refine any_up (f32_L0 x K) x 0#16 (fun s => decide (s.toNat ≥ 4096)) (some (7, [])) (K ()) (fun k m hm => ?_) (fun k => ?_) FUEL (fuel_lt (by omega))
  · rw [f32_L0.eq_2, ifd_pos (by omega), chk_pos (by omega), neg4095, outside_eq]
    by_cases h : (x.getD m 0#16).toNat < 4096
    · rw [if_neg (by rw [decide_eq_true h]; simp), ifd_neg (by omega), chk_pos (by omega)]
    · rw [if_pos (by rw [decide_eq_false h]; rfl), ifd_pos (by omega)]
  · rw [f32_L0.eq_2, ifd_neg (by omega)]
theorem f32_L1_eq (x : List (BitVec 16)) (hx : x.length ≤ 6) (K : List (BitVec 16) → Option (Int × List Flt)) : ∀ (m k n : Nat) (w : BitVec 16) (l : List (BitVec 16)), n + m = x.length → m < k → l.length ≤ n → f32_L1 x K k (w, n, l) = if ovF (x.drop n) w = true then some (5, []) else K (l ++ neS (x.drop n))
  | 0, k, n, w, l, hn, hk, hl => by
    obtain ⟨k, rfl⟩ : ∃ q, k = q + 1 := ⟨k - 1, by omega⟩
    rw [f32_L1.eq_2, ifd_neg (by omega), List.drop_eq_nil_of_le (by omega)]
    unfold ovF neS
    simp
  | m + 1, k, n, w, l, hn, hk, hl => by
    obtain ⟨k, rfl⟩ : ∃ q, k = q + 1 := ⟨k - 1, by omega⟩
    have ih := f32_L1_eq x hx K m k (n + 1)
    rw [f32_L1.eq_2, ifd_pos (by omega), jn_eq, chk_pos (by omega), getD_drop x n 0#16 (by omega), ovF]
    have hz : (BitVec.ofInt 16 0) = 0#16 := rfl
    rw [hz]
    by_cases h : (!((x.getD n 0#16 &&& w) == 0#16)) = true
    · rw [if_pos h, h, Bool.true_or, if_pos rfl]
    · have h' : (!((x.getD n 0#16 &&& w) == 0#16)) = false := by simpa using h
      rw [if_neg h, h', Bool.false_or]
      by_cases h0 : (!((x.getD n 0#16) == 0#16)) = true
      · rw [if_pos h0, chk_pos (by omega)]
        dsimp only
        rw [chk_pos (by omega), ih _ _ (by omega) (by omega) (by simp; omega)]
        have e : neS (x.getD n 0#16 :: x.drop (n + 1)) = x.getD n 0#16 :: neS (x.drop (n + 1)) := by unfold neS; rw [List.filter_cons_of_pos (p := fun s => !(s == 0#16)) h0]
        rw [e, List.append_assoc]; rfl
      · rw [if_neg h0]
        dsimp only
        rw [chk_pos (by omega), ih _ _ (by omega) (by omega) (by omega)]
        have e : neS (x.getD n 0#16 :: x.drop (n + 1)) = neS (x.drop (n + 1)) := by unfold neS; rw [List.filter_cons_of_neg (p := fun s => !(s == 0#16)) h0]
        rw [e]
def badN (n : Nat) (b c : Int) : Bool := (((decide (b < (0 : Int))) || (decide (c < (0 : Int)))) || (decide (b > ((n : Nat) : Int)))) || (decide (c > (((n : Nat) : Int) - b)))
/-- what both answer -/
def sitP (x : List (BitVec 16)) (b c : Int) : Int × List Flt :=
  if badR x = true then (7, []) else if ovF x 0#16 = true then (5, []) else if badN x.length b c = true then (7, []) else limF (normP (refL x b.toNat c.toNat))
theorem pow3_6 {n : Nat} (h : n ≤ 6) : 3 ^ n ≤ 729 := Nat.pow_le_pow_right (n := 3) (by decide) h
theorem f32_eq (x : List (BitVec 16)) (hx : x.length ≤ 6) (b c : Int) (hb : -9223372036854775808 ≤ b ∧ b ≤ 9223372036854775807) : f32 x b c = some (sitP x b c) := by
  unfold f32 sitP
  rw [jn_eq, f32_L0_eq x hx]
  by_cases h1 : badR x = true
  · rw [if_pos h1, if_pos h1]
  rw [if_neg h1, if_neg h1]
  try dsimp only
  rw [jn_eq, show (BitVec.ofInt 16 0) = 0#16 from rfl, f32_L1_eq x hx _ x.length FUEL 0 0#16 [] (by omega) (fuel_lt (by omega)) (by simp), List.drop_zero]
  by_cases h2 : ovF x 0#16 = true
  · rw [if_pos h2, if_pos h2]
  rw [if_neg h2, if_neg h2, List.nil_append]
  try dsimp only
  rw [chk_pos (by
    intro h
    simp at h
    omega)]
  by_cases h3 : badN x.length b c = true
  · rw [if_pos h3]
    exact if_pos h3
  rw [if_neg h3]
  refine (if_neg h3).trans ?_
  unfold badN at h3
  simp only [Bool.or_eq_true, decide_eq_true_eq, not_or] at h3
  obtain ⟨b, rfl⟩ := Int.eq_ofNat_of_zero_le (show 0 ≤ b by omega)
  obtain ⟨c, rfl⟩ := Int.eq_ofNat_of_zero_le (show 0 ≤ c by omega)
  have hne : (neS x).length ≤ x.length := List.length_filter_le _ _
  have h58 := f58_eq (neS x) x hne hx (neS x).length FUEL 0 b c (0#16, 0#16) (by omega) (fuel_lt (by omega)) (by omega) (by omega)
  dsimp only at h58
  rw [show (0 : Int) = ((0 : Nat) : Int) from rfl, h58, some_bind, List.drop_zero, Int.toNat_natCast, Int.toNat_natCast]
  dsimp only
  have hl := genL_len (x.length - (neS x).length) (neS x) b c (0#16, 0#16)
  have hp := pow3_6 (show (neS x).length ≤ 6 by omega)
  rw [f54_eq _ (by omega), some_bind, sites_eq]
/-! ### the reference -/
def numsY (x y : Nat) : Bool := (bitsI .and .i64 (x : Int) (y : Int) == 0) == disN 6 x y
def nums6 : Bool := (List.range 64).all fun (x : Nat) => decide (f59 (x : Int) = some ((popN 6 x : Nat) : Int)) && ((bitsI .and .i64 (x : Int) 1 == 1) == decide (x % 2 = 1)) && (List.range 64).all (numsY x)
theorem nums6_eq : nums6 = true := by kernel_rfl
theorem nums_of {x : Nat} (h : x < 64) : f59 (x : Int) = some ((popN 6 x : Nat) : Int) ∧ (bitsI .and .i64 (x : Int) 1 == 1) = decide (x % 2 = 1) ∧ ∀ y : Nat, y < 64 → (bitsI .and .i64 (x : Int) (y : Int) == 0) = disN 6 x y := by
  have := List.all_eq_true.1 nums6_eq x (List.mem_range.2 h)
  simp only [Bool.and_eq_true, decide_eq_true_eq, beq_iff_eq] at this
  refine ⟨this.1.1, this.1.2, fun y hy => ?_⟩
  have h2 := List.all_eq_true.1 this.2 y (List.mem_range.2 hy)
  unfold numsY at h2
  simpa using h2
theorem popN_zero : ∀ d, popN d 0 = 0
  | 0 => rfl
  | d + 1 => by rw [popN, Nat.zero_div, popN_zero d]
theorem popN_ext : ∀ (n d x : Nat), x < 2 ^ n → popN (n + d) x = popN n x
  | 0, d, x, h => by
    obtain rfl : x = 0 := by simpa using h
    rw [popN_zero, popN_zero]
  | n + 1, d, x, h => by
    rw [Nat.pow_succ] at h
    rw [show n + 1 + d = (n + d) + 1 from by omega, popN, popN, popN_ext n d (x / 2) (by omega)]
theorem disN_zero : ∀ d, disN d 0 0 = true
  | 0 => rfl
  | d + 1 => by rw [disN, Nat.zero_div, disN_zero d]; rfl
theorem disN_ext : ∀ (n d x y : Nat), x < 2 ^ n → y < 2 ^ n → disN (n + d) x y = disN n x y
  | 0, d, x, y, hx, hy => by
    obtain rfl : x = 0 := by simpa using hx
    obtain rfl : y = 0 := by simpa using hy
    rw [disN_zero, disN_zero]
  | n + 1, d, x, y, hx, hy => by
    rw [Nat.pow_succ] at hx hy
    rw [show n + 1 + d = (n + d) + 1 from by omega, disN, disN, disN_ext n d (x / 2) (y / 2) (by omega) (by omega)]
theorem pow6 {n : Nat} (h : n ≤ 6) : 2 ^ n ≤ 64 := Nat.pow_le_pow_right (n := 2) (by decide) h
theorem f59_eq {n x : Nat} (hn : n ≤ 6) (h : x < 2 ^ n) : f59 (x : Int) = some ((popN n x : Nat) : Int) := by
  have := pow6 hn
  rw [(nums_of (x := x) (by omega)).1]
  have e := popN_ext n (6 - n) x h
  rw [show n + (6 - n) = 6 from by omega] at e
  rw [e]
theorem and_dis {n x y : Nat} (hn : n ≤ 6) (hx : x < 2 ^ n) (hy : y < 2 ^ n) : (bitsI .and .i64 (x : Int) (y : Int) == 0) = disN n x y := by
  have := pow6 hn
  rw [(nums_of (x := x) (by omega)).2.2 y (by omega)]
  have e := disN_ext n (6 - n) x y hx hy
  rw [show n + (6 - n) = 6 from by omega] at e
  exact e
theorem divc9 (i n : Nat) : ((i : Int) / 2 ^ n) = ((i / 2 ^ n : Nat) : Int) := by
  rw [Int.natCast_ediv, Int.natCast_pow]; rfl
theorem f60_L0_eq (S : List (BitVec 16)) (hS : S.length ≤ 6) (x : Nat) (hx : x < 64) (K : BitVec 16 → Option (BitVec 16)) : ∀ (m k n : Nat) (w : BitVec 16), n + m = S.length → m < k → f60_L0 S (x : Int) K k (w, n) = K (unS (S.drop n) (x / 2 ^ n) w)
  | 0, k, n, w, hn, hk => by
    obtain ⟨k, rfl⟩ : ∃ q, k = q + 1 := ⟨k - 1, by omega⟩
    rw [f60_L0.eq_2, ifd_neg (by omega), List.drop_eq_nil_of_le (by omega)]
    rfl
  | m + 1, k, n, w, hn, hk => by
    obtain ⟨k, rfl⟩ : ∃ q, k = q + 1 := ⟨k - 1, by omega⟩
    have hu : IntKind.bits .i64 = 64 := rfl
    have hlt : x / 2 ^ n < 64 := Nat.lt_of_le_of_lt (Nat.div_le_self _ _) hx
    rw [f60_L0.eq_2, ifd_pos (by omega), jn_eq, chk_pos (by rw [hu]; omega), divc9, (nums_of hlt).2.1, getD_drop S n 0#16 (by omega), unS, Nat.div_div_eq_div_mul, ← Nat.pow_succ]
    by_cases hb : x / 2 ^ n % 2 = 1
    · rw [ifd_pos hb, if_pos hb, chk_pos (by omega)]
      dsimp only
      rw [chk_pos (by omega), f60_L0_eq S hS x hx K m k (n + 1) _ (by omega) (by omega)]
    · rw [ifd_neg hb, if_neg hb]
      dsimp only
      rw [chk_pos (by omega), f60_L0_eq S hS x hx K m k (n + 1) _ (by omega) (by omega)]
theorem f60_eq (S : List (BitVec 16)) (hS : S.length ≤ 6) (x : Nat) (hx : x < 64) : f60 S (x : Int) = some (unS S x 0#16) := by
  unfold f60
  rw [jn_eq, show (BitVec.ofInt 16 0) = 0#16 from rfl, f60_L0_eq S hS x hx _ S.length FUEL 0 _ (by omega) (fuel_lt (by omega)), List.drop_zero, Nat.pow_zero, Nat.div_one]
theorem f34_L0_eq (x : List (BitVec 16)) (hx : x.length ≤ 6) (K : Unit → Option (List Flt × Int)) : f34_L0 x K FUEL 0 = if badR x = true then some ([], 7) else K () := by
  refine any_up (f34_L0 x K) x 0#16 (fun s => decide (s.toNat ≥ 4096)) (some ([], 7)) (K ()) (fun k m hm => ?_) (fun k => ?_) FUEL (fuel_lt (by omega))
  · rw [f34_L0.eq_2, ifd_pos (by omega), chk_pos (by omega)]
    have e : (BitVec.ofInt 16 4096).toNat = 4096 := rfl
    rw [e]
    by_cases h : (x.getD m 0#16).toNat ≥ 4096
    · rw [ifd_pos h, ifd_pos h]
    · rw [ifd_neg h, ifd_neg h, chk_pos (by omega)]
  · rw [f34_L0.eq_2, ifd_neg (by omega)]
def ovT (x : List (BitVec 16)) (n : Nat) : Bool := (x.take n).any fun y => !((x.getD n 0#16 &&& y) == 0#16)
def ovG (x : List (BitVec 16)) : Nat → Nat → Bool
  | 0, _ => false
  | c + 1, n => ovT x n || ovG x c (n + 1)
theorem getD_take9 {α : Type} (x : List α) (n m : Nat) (d : α) (h : m < n) : (x.take n).getD m d = x.getD m d := by
  simp [List.getD_eq_getElem?_getD, h]
theorem f34_L2_eq (x : List (BitVec 16)) (hx : x.length ≤ 6) (n : Nat) (hn : n < x.length) (K : Unit → Option (List Flt × Int)) : f34_L2 x n K FUEL 0 = if ovT x n = true then some ([], 5) else K () := by
  have hl : (x.take n).length = n := by simp; omega
  refine any_up (f34_L2 x n K) (x.take n) 0#16 (fun y => !((x.getD n 0#16 &&& y) == 0#16)) (some ([], 5)) (K ()) (fun k m hm => ?_) (fun k => ?_) FUEL (by rw [hl]; exact fuel_lt (by omega))
  · rw [hl] at hm
    rw [f34_L2.eq_2, ifd_pos (by omega), chk_pos (by omega), chk_pos (by omega), getD_take9 x n m 0#16 hm, show (BitVec.ofInt 16 0) = 0#16 from rfl, chk_pos (by omega)]
  · rw [hl, f34_L2.eq_2, ifd_neg (by omega)]
theorem f34_L1_eq (x : List (BitVec 16)) (hx : x.length ≤ 6) (K : Unit → Option (List Flt × Int)) : ∀ (c k n : Nat), n + c = x.length → c < k → f34_L1 x K k n = if ovG x c n = true then some ([], 5) else K ()
  | 0, k, n, hn, hk => by
    obtain ⟨k, rfl⟩ : ∃ q, k = q + 1 := ⟨k - 1, by omega⟩
    rw [f34_L1.eq_2, ifd_neg (by omega)]
    rfl
  | c + 1, k, n, hn, hk => by
    obtain ⟨k, rfl⟩ : ∃ q, k = q + 1 := ⟨k - 1, by omega⟩
    rw [f34_L1.eq_2, ifd_pos (by omega), jn_eq, f34_L2_eq x hx n (by omega), ovG]
    by_cases h : ovT x n = true
    · rw [if_pos h, h, Bool.true_or, if_pos rfl]
    · have h' : ovT x n = false := by simpa using h
      rw [if_neg h, h', Bool.false_or]
      try dsimp only
      rw [chk_pos (by omega), f34_L1_eq x hx K c k (n + 1) (by omega) (by omega)]
def orF (l : List (BitVec 16)) : BitVec 16 := l.foldl (fun w s => w ||| s) 0#16
theorem and_or_zero (s a b : BitVec 16) : ((s &&& (a ||| b)) == 0#16) = ((s &&& a == 0#16) && (s &&& b == 0#16)) := by
  rw [Bool.eq_iff_iff, Bool.and_eq_true, beq_iff_eq, beq_iff_eq, beq_iff_eq]
  constructor
  · intro h
    constructor <;>
    · apply BitVec.eq_of_getLsbD_eq
      intro i hi
      have h1 := congrArg (fun z => z.getLsbD i) h
      simp only [BitVec.getLsbD_and, BitVec.getLsbD_or] at h1 ⊢
      revert h1
      cases s.getLsbD i <;> cases a.getLsbD i <;> cases b.getLsbD i <;> simp
  · rintro ⟨h, h2⟩
    apply BitVec.eq_of_getLsbD_eq
    intro i hi
    have h1 := congrArg (fun z => z.getLsbD i) h
    have h3 := congrArg (fun z => z.getLsbD i) h2
    simp only [BitVec.getLsbD_and, BitVec.getLsbD_or] at h1 h3 ⊢
    revert h1 h3
    cases s.getLsbD i <;> cases a.getLsbD i <;> cases b.getLsbD i <;> simp
theorem orF_any (s : BitVec 16) : ∀ (l : List (BitVec 16)) (w : BitVec 16), (!((s &&& l.foldl (fun w s => w ||| s) w) == 0#16)) = (!((s &&& w) == 0#16) || l.any fun y => !((s &&& y) == 0#16))
  | [], w => by simp
  | y :: l, w => by
    rw [List.foldl_cons, orF_any s l, and_or_zero, List.any_cons, Bool.not_and, Bool.or_assoc]
theorem take_snoc9 {α : Type} (l : List α) (j : Nat) (d : α) (h : j < l.length) : l.take (j + 1) = l.take j ++ [l.getD j d] := by
  rw [List.take_add_one]
  simp [List.getD_eq_getElem?_getD, h]
theorem ov_eq (x : List (BitVec 16)) : ∀ c n, n + c = x.length → ovF (x.drop n) (orF (x.take n)) = ovG x c n
  | 0, n, hn => by rw [List.drop_eq_nil_of_le (by omega)]; rfl
  | c + 1, n, hn => by
    have e : orF (x.take n) ||| x.getD n 0#16 = orF (x.take (n + 1)) := by
      unfold orF
      rw [take_snoc9 x n 0#16 (by omega), List.foldl_append]; rfl
    rw [getD_drop x n 0#16 (by omega), ovF, ovG, e, ov_eq x c (n + 1) (by omega)]
    congr 1
    have := orF_any (x.getD n 0#16) (x.take n) 0#16
    unfold orF ovT
    rw [this]
    simp
theorem fold_filter9 {α β : Type} (p : α → Bool) (f : α → β) : ∀ (L : List α) (out : List β), L.foldl (fun l y => if p y = true then l ++ [f y] else l) out = out ++ (L.filter p).map f
  | [], out => by simp
  | y :: L, out => by
    rw [List.foldl_cons, fold_filter9 p f L]
    by_cases h : p y = true
    · rw [if_pos h, List.filter_cons_of_pos h]; simp
    · rw [if_neg h, List.filter_cons_of_neg h]
theorem flat_fold9 {α β : Type} (g : α → List β) : ∀ (l : List α) (out : List β), l.foldl (fun out a => out ++ g a) out = out ++ l.flatMap g
  | [], out => by simp
  | a :: l, out => by rw [List.foldl_cons, flat_fold9 g l]; simp
theorem range_get (N n : Nat) (h : n < N) : (List.range N).getD n 0 = n := by simp [List.getD_eq_getElem?_getD, h]
theorem f34_L4_eq (S : List (BitVec 16)) (hS : S.length ≤ 6) (c x : Nat) (hx : x < 2 ^ S.length) (K : List Flt → Option (List Flt × Int)) (l : List Flt) (hl : l.length ≤ 100000) :
    f34_L4 S (c : Int) x K FUEL (0, l) = K (l ++ ((List.range (2 ^ S.length)).filter fun y => decide (popN S.length y = c) && disN S.length x y).map fun y => (unS S x 0#16, unS S y 0#16)) := by
  have h6 := pow6 hS
  have hu : IntKind.bits .i64 = 64 := rfl
  have hp : (1 : Int) * 2 ^ S.length = ((2 ^ S.length : Nat) : Int) := by rw [Int.one_mul, Int.natCast_pow]; rfl
  have hpp : 0 ≤ ((2 ^ S.length : Nat) : Int) := Int.natCast_nonneg _
  have h := fold_up (f34_L4 S (c : Int) x K) (List.range (2 ^ S.length)) 0 (fun n s => s.length ≤ 100000 + n) (fun s y => if (decide (popN S.length y = c) && disN S.length x y) = true then s ++ [(unS S x 0#16, unS S y 0#16)] else s) K (fun k n s hn hi => by
    rw [List.length_range] at hn
    rw [range_get _ _ hn, f34_L4.eq_2, chk_pos (by rw [hu, hp]; omega), ifd_pos (by rw [hp]; omega), jn_eq, f59_eq hS hn, some_bind, and_dis hS hx hn]
    have e : (((popN S.length n : Nat) : Int) == (c : Int)) = decide (popN S.length n = c) := by
      rw [Bool.eq_iff_iff]; simp; omega
    rw [e]
    by_cases hc : (decide (popN S.length n = c) && disN S.length x n) = true
    · rw [if_pos hc, if_pos hc, f60_eq S hS x (by omega), some_bind, f60_eq S hS n (by omega), some_bind, chk_pos (by omega)]
      dsimp only
      rw [chk_pos (by omega)]
    · rw [if_neg hc, if_neg hc]
      dsimp only
      rw [chk_pos (by omega)]) (fun n s hn hi => by
    try dsimp only
    split
    · simp; omega
    · omega) (fun k s hi => by
    rw [List.length_range, f34_L4.eq_2, chk_pos (by rw [hu, hp]; omega), ifd_neg (by rw [hp]; omega)]) (2 ^ S.length) FUEL 0 l (by rw [List.length_range]; omega) (fuel_lt (by omega)) hl
  rw [h, List.drop_zero, fold_filter9]
theorem f34_L3_eq (S : List (BitVec 16)) (hS : S.length ≤ 6) (b c : Nat) (K : List Flt → Option (List Flt × Int)) : f34_L3 S (b : Int) (c : Int) K FUEL (0, []) = K (refL S b c) := by
  have h6 := pow6 hS
  have hu : IntKind.bits .i64 = 64 := rfl
  have hp : (1 : Int) * 2 ^ S.length = ((2 ^ S.length : Nat) : Int) := by rw [Int.one_mul, Int.natCast_pow]; rfl
  have hpp : 0 ≤ ((2 ^ S.length : Nat) : Int) := Int.natCast_nonneg _
  have h := fold_up (f34_L3 S (b : Int) (c : Int) K) (List.range (2 ^ S.length)) 0 (fun n s => s.length ≤ 64 * n) (fun s x => s ++ if popN S.length x = b then ((List.range (2 ^ S.length)).filter fun y => decide (popN S.length y = c) && disN S.length x y).map fun y => (unS S x 0#16, unS S y 0#16) else []) K (fun k n s hn hi => by
    rw [List.length_range] at hn
    rw [range_get _ _ hn, f34_L3.eq_2, chk_pos (by rw [hu, hp]; omega), ifd_pos (by rw [hp]; omega), jn_eq, f59_eq hS hn, some_bind]
    by_cases hb : popN S.length n = b
    · rw [if_neg (by simp; omega), if_pos hb, f34_L4_eq S hS c n hn _ s (by omega)]
      try dsimp only
      rw [chk_pos (by omega)]
    · rw [if_pos (by simp; omega), if_neg hb, List.append_nil]
      dsimp only
      rw [chk_pos (by omega)]) (fun n s hn hi => by
    try dsimp only
    have : ∀ p : Nat → Bool, ((List.range (2 ^ S.length)).filter p).length ≤ 64 := fun p => by
      have := List.length_filter_le p (List.range (2 ^ S.length))
      rw [List.length_range] at this
      omega
    rw [List.length_append]
    split
    · rw [List.length_map]
      have := this fun y => decide (popN S.length y = c) && disN S.length ((List.range (2 ^ S.length)).getD n 0) y
      omega
    · simp; omega) (fun k s hi => by
    rw [List.length_range, f34_L3.eq_2, chk_pos (by rw [hu, hp]; omega), ifd_neg (by rw [hp]; omega)]) (2 ^ S.length) FUEL 0 [] (by rw [List.length_range]; omega) (fuel_lt (by omega)) (by simp)
  rw [h, List.drop_zero, flat_fold9, List.nil_append]
  rfl
theorem refL_len (S : List (BitVec 16)) (hS : S.length ≤ 6) (b c : Nat) : (refL S b c).length ≤ 65536 := by
  have h6 := pow6 hS
  unfold refL
  have : ∀ (g : Nat → List Flt) (hg : ∀ x, (g x).length ≤ 64) (L : List Nat), (L.flatMap g).length ≤ 64 * L.length := by
    intro g hg L
    induction L with
    | nil => simp
    | cons x L ih =>
      have := hg x
      rw [List.flatMap_cons, List.length_append, List.length_cons]; omega
  have h := this (fun x => if popN S.length x = b then ((List.range (2 ^ S.length)).filter fun y => decide (popN S.length y = c) && disN S.length x y).map fun y => (unS S x 0#16, unS S y 0#16) else []) (fun x => by
    try dsimp only
    split
    · rw [List.length_map]
      have := List.length_filter_le (fun y => decide (popN S.length y = c) && disN S.length x y) (List.range (2 ^ S.length))
      rw [List.length_range] at this
      omega
    · simp) (List.range (2 ^ S.length))
  rw [List.length_range] at h
  omega
theorem f34_eq (x : List (BitVec 16)) (hx : x.length ≤ 6) (b c : Int) (hb : -9223372036854775808 ≤ b ∧ b ≤ 9223372036854775807) : f34 x b c = some ((sitP x b c).2, (sitP x b c).1) := by
  unfold f34 sitP
  rw [jn_eq, f34_L0_eq x hx]
  by_cases h1 : badR x = true
  · rw [if_pos h1, if_pos h1]
  rw [if_neg h1, if_neg h1]
  try dsimp only
  have hov : ovF x 0#16 = ovG x x.length 0 := ov_eq x x.length 0 (by omega)
  rw [jn_eq, f34_L1_eq x hx _ x.length FUEL 0 (by omega) (fuel_lt (by omega)), ← hov]
  by_cases h2 : ovF x 0#16 = true
  · rw [if_pos h2, if_pos h2]
  rw [if_neg h2, if_neg h2]
  try dsimp only
  rw [chk_pos (by
    intro h
    simp at h
    omega)]
  by_cases h3 : badN x.length b c = true
  · rw [if_pos h3]
    exact if_pos h3
  rw [if_neg h3]
  refine (if_neg h3).trans ?_
  unfold badN at h3
  simp only [Bool.or_eq_true, decide_eq_true_eq, not_or] at h3
  obtain ⟨b, rfl⟩ := Int.eq_ofNat_of_zero_le (show 0 ≤ b by omega)
  obtain ⟨c, rfl⟩ := Int.eq_ofNat_of_zero_le (show 0 ≤ c by omega)
  rw [jn_eq, f34_L3_eq x hx b c, Int.toNat_natCast, Int.toNat_natCast]
  try dsimp only
  rw [f55_eq _ (refL_len x hx b c), some_bind, f52_eq, some_bind]
theorem f33_eq (x : List (BitVec 16)) (hx : x.length ≤ 6) : f33 x = some x := by
  unfold f33
  rw [abc_eq (fun h => by
    rw [chk_pos (by omega)]
    rw [List.eq_nil_of_length_eq_zero h]; rfl), chk_pos (by omega), List.nil_append]
theorem f22_refl9 (l : List Flt) (hl : l.length ≤ 1000000) : f22 l l = some true := by
  unfold f22
  rw [if_neg (by simp), jn_eq]
  have : ∀ (m k n : Nat), n + m = l.length → m < k → f22_L0 l l (fun _ => some true) k n = some true := by
    intro m
    induction m with
    | zero =>
      intro k n hn hk
      obtain ⟨k, rfl⟩ : ∃ z, k = z + 1 := ⟨k - 1, by omega⟩
      rw [f22_L0.eq_2, ifd_neg (by omega)]
    | succ m ih =>
      intro k n hn hk
      obtain ⟨k, rfl⟩ : ∃ z, k = z + 1 := ⟨k - 1, by omega⟩
      rw [f22_L0.eq_2, ifd_pos (by omega), chk_pos (by omega), chk_pos (by omega), if_neg (by simp), chk_pos (by omega)]
      exact ih k (n + 1) (by omega) (by omega)
  exact this l.length FUEL 0 (by omega) (fuel_lt (by omega))
theorem sitP_len (x : List (BitVec 16)) (b c : Int) : (sitP x b c).2.length ≤ 1000000 := by
  unfold sitP
  split
  · simp
  · split
    · simp
    · split
      · simp
      · unfold limF
        split <;> simp <;> omega
theorem f9_true (x : List (BitVec 16)) (b c : Int) (hb : -9223372036854775808 ≤ b) (hb2 : b ≤ 9223372036854775807) (_ : -9223372036854775808 ≤ c) (_ : c ≤ 9223372036854775807) : f9 x b c = some true := by
  unfold f9
  rw [f12_true, some_bind]
  by_cases h : x.length ≤ 6
  · rw [if_neg (by simp; omega), f33_eq x h, some_bind, f32_eq x h b c ⟨hb, hb2⟩, some_bind, f34_eq x h b c ⟨hb, hb2⟩, some_bind]
    dsimp only
    rw [show (((sitP x b c).1 == (sitP x b c).1) == true) = true from by simp, optc_t, f22_refl9 _ (sitP_len x b c), some_bind]
    simp
  · rw [if_pos (by simp; omega)]
    rfl
end Go.Abs
