/- Chapter 08: small functions, sorting, least and greatest. -/
import Derived.Test.YtncjecbhohcfoaaDoorX08P3
import Derived.Test.YtncjecbhohcfoaaDoorPl
import Derived.Test.YtncjecbhohcfoaaDoorFam
namespace Go.Abs
theorem bit_toNat (x : BitVec 16) (i : Nat) : ((x >>> i) &&& (BitVec.ofInt 16 1)).toNat = x.toNat / 2 ^ i % 2 := by
  rw [BitVec.toNat_and, BitVec.toNat_ushiftRight, Nat.shiftRight_eq_div_pow]
  exact Nat.and_one_is_mod _

theorem f59_L0_eq (x : BitVec 16) (K : Nat → Option Int) : ∀ (c k acc i : Nat), i + c = 16 → c < k → acc ≤ i → f59_L0 x K k (acc, i) = K (acc + bsum x.toNat i c)
  | 0, k, acc, i, hi, hk, ha => by
    obtain ⟨k, rfl⟩ : ∃ q, k = q + 1 := ⟨k - 1, by omega⟩
    rw [f59_L0.eq_2, if_neg (by simp; omega)]
    simp [bsum]
  | c + 1, k, acc, i, hi, hk, ha => by
    obtain ⟨k, rfl⟩ : ∃ q, k = q + 1 := ⟨k - 1, by omega⟩
    rw [f59_L0.eq_2, if_pos (by simp; omega)]
    have hb : x.toNat / 2 ^ i % 2 < 2 := Nat.mod_lt _ (by decide)
    unfold chk
    rw [bit_toNat, if_pos (by omega), if_pos (by omega), f59_L0_eq x K c k _ (i + 1) (by omega) (by omega) (by omega)]
    simp only [bsum, Nat.add_assoc]
theorem f59_eq (x : BitVec 16) : f59 x = some (sz x : Int) := by
  unfold f59 jn
  dsimp only
  rw [f59_L0_eq x _ 16 FUEL 0 0 rfl (by unfold FUEL; omega) (Nat.le_refl _), Nat.zero_add]
  rfl
theorem cs0_at (b : Nat) (h : b < 256) : (cs0.getD b 0).toNat = bsum b 0 8 := pop8_at b h
theorem f82_eq (x : BitVec 16) : f82 x = some (sz x : Int) := by
  have h1 : (x >>> 8).toNat = x.toNat / 256 := by rw [BitVec.toNat_ushiftRight, Nat.shiftRight_eq_div_pow]
  have h2 : (x &&& (BitVec.ofInt 16 255)).toNat = x.toNat % 256 := by
    rw [BitVec.toNat_and]
    exact Nat.and_two_pow_sub_one_eq_mod x.toNat 8
  have hx := x.isLt
  have hl : cs0.length = 256 := by kernel_rfl
  have e1 := cs0_at (x.toNat / 256) (by omega)
  have e2 := cs0_at (x.toNat % 256) (by omega)
  have l1 := bsum_le (x.toNat / 256) 8 0
  have l2 := bsum_le (x.toNat % 256) 8 0
  unfold f82 chk
  rw [h1, h2, e1, e2, hl, if_pos (by omega), if_pos (by omega), if_pos (by omega), if_pos (by omega), bsum_split]
  rfl
theorem f64_eq (x : BitVec 16) : f64 x = some (sz x : Int) := by
  unfold f64; rw [f82_eq]; rfl

theorem f63_eq (a b : Int) : f63 a b = some (cmpI a b) := by
  unfold f63 f81 cmpI
  simp
  split
  · rfl
  · split <;> rfl
theorem f65_eq (a b : BitVec 16) : f65 a b = some (cmpI a.toNat b.toNat) := by
  unfold f65 f83 cmpI
  simp
  split
  · rfl
  · split <;> rfl
theorem f62_eq (a b : Int) : f62 [a, b] = some (if a ≠ 0 then a else b) := by
  unfold f62 jn
  dsimp only
  obtain ⟨k, hk⟩ : ∃ k, FUEL = k + 1 + 1 + 1 := ⟨FUEL - 3, by unfold FUEL; rfl⟩
  rw [hk, f62_L0.eq_2, if_pos (by simp)]
  unfold chk
  rw [if_pos (by simp)]
  by_cases ha : a = 0
  · subst ha
    simp only [List.getD_cons_zero, bne_self_eq_false, Bool.false_eq_true, if_false]
    rw [if_pos (by omega), f62_L0.eq_2, if_pos (by simp)]
    unfold chk
    rw [if_pos (by simp)]
    by_cases hb : b = 0
    · subst hb
      simp only [Nat.zero_add, List.getD_cons_succ, List.getD_cons_zero, bne_self_eq_false, Bool.false_eq_true, if_false]
      rw [if_pos (by omega), f62_L0.eq_2, if_neg (by simp)]
      simp
    · simp [hb]
  · simp [ha]
theorem f40_eq (a b : BitVec 16) : f40 a b = some (ltS a b) := by
  unfold f40 ltS
  rw [f59_eq, f59_eq]
  by_cases h : sz a = sz b
  · simp [h]
  · simp [h]
    intro e; omega
theorem f38_eq (a b : BitVec 16) : ∃ c, f38 a b = some c ∧ ((c ≥ 0) ↔ ltS a b = false) := by
  unfold f38
  rw [f64_eq, f64_eq]
  simp only [Option.bind_some, f63_eq, f65_eq, f62_eq]
  refine ⟨_, rfl, ?_⟩
  unfold cmpI ltS
  by_cases h : sz a = sz b
  · rw [h]
    simp
    split <;> rename_i h1
    · simp; omega
    · split <;> simp <;> omega
  · by_cases h1 : sz a < sz b
    · simp [h, h1]
    · have : sz b < sz a := by omega
      simp [h, h1, this]

theorem and_hi (n : Nat) (h : n < 65536) : (n &&& 61440 = 0) ↔ n < 4096 := by
  have e : (n &&& 61440) >>> 12 = n / 4096 := by
    rw [Nat.shiftRight_and_distrib, Nat.shiftRight_eq_div_pow]
    show (n / 4096) &&& 15 = n / 4096
    rw [show (15 : Nat) = 2 ^ 4 - 1 from rfl, Nat.and_two_pow_sub_one_eq_mod]
    omega
  constructor
  · intro h0
    rw [h0] at e
    simp at e
    omega
  · intro hn
    apply Nat.eq_of_testBit_eq
    intro i
    rw [Nat.testBit_and, Nat.zero_testBit]
    by_cases hi : i < 12
    · have : Nat.testBit 61440 i = false := by
        rw [show (61440 : Nat) = 2 ^ 12 * 15 from rfl, Nat.testBit_two_pow_mul]
        simp; omega
      rw [this, Bool.and_false]
    · have : n.testBit i = false := Nat.testBit_lt_two_pow (Nat.lt_of_lt_of_le hn (Nat.pow_le_pow_right (n := 2) (by decide) (by omega : 12 ≤ i)))
      rw [this, Bool.false_and]
theorem outside_eq (x : BitVec 16) : ((x &&& (BitVec.ofInt 16 61440)) == (BitVec.ofInt 16 0)) = decide (x.toNat < 4096) := by
  have h := and_hi x.toNat x.isLt
  rw [Bool.eq_iff_iff, beq_iff_eq, decide_eq_true_eq, ← h]
  constructor
  · intro e
    have := congrArg BitVec.toNat e
    simpa using this
  · intro e
    apply BitVec.eq_of_toNat_eq
    simpa using e
theorem f39_eq (x : BitVec 16) : f39 x = some (decide (x.toNat < 4096)) := rfl
theorem f41_eq (x y : BitVec 16) : f41 x y = some (sub y x) := rfl
theorem f54_eq (y s : BitVec 16) : f54 y s = some (sub y s, s) := rfl
theorem f73_L0_eq (x : List (BitVec 16)) (K : (BitVec 16) → Option (Int × BitVec 16)) (s : BitVec 16) (hx : x.length ≤ 65536) : ∀ (c k n : Nat), n + c = x.length → c < k →
    (∃ m : Nat, f73_L0 x K k (n, s) = some ((m : Int), s) ∧ (x.drop n).any (fun y => sub y s) = true) ∨ (f73_L0 x K k (n, s) = K s ∧ (x.drop n).any (fun y => sub y s) = false)
  | 0, k, n, hn, hk => by
    obtain ⟨k, rfl⟩ : ∃ q, k = q + 1 := ⟨k - 1, by omega⟩
    rw [f73_L0.eq_2, if_neg (by simp; omega)]
    exact .inr ⟨rfl, by rw [List.drop_eq_nil_of_le (by omega)]; rfl⟩
  | c + 1, k, n, hn, hk => by
    obtain ⟨k, rfl⟩ : ∃ q, k = q + 1 := ⟨k - 1, by omega⟩
    have hlt : n < x.length := by omega
    have hg : x.getD n 0#16 = x[n] := by simp [List.getD_eq_getElem?_getD, hlt]
    rw [f73_L0.eq_2, if_pos (by simp; omega), f54_eq, hg, List.drop_eq_getElem_cons hlt]
    simp only [Option.bind_some, List.any_cons]
    unfold chk
    rw [if_pos (by omega)]
    by_cases h : sub x[n] s = true
    · rw [if_pos h]; exact .inl ⟨n, rfl, by rw [h]; rfl⟩
    · rw [if_neg h, if_pos (by omega)]
      have h : sub x[n] s = false := by simpa using h
      rw [h, Bool.false_or]
      exact f73_L0_eq x K s hx c k (n + 1) (by omega) (by omega)
theorem f27_eq (x : List (BitVec 16)) (s : BitVec 16) (hx : x.length ≤ 65536) : f27 x s = some (x.any fun y => sub y s) := by
  unfold f27 f53 f73 jn
  dsimp only
  rcases f73_L0_eq x (fun w6 => some (-1, w6)) s hx x.length FUEL 0 (by omega) (by unfold FUEL; omega) with ⟨m, h1, h2⟩ | ⟨h1, h2⟩
  · rw [h1]; rw [List.drop_zero] at h2; rw [h2]; simp
  · rw [h1]; rw [List.drop_zero] at h2; rw [h2]; simp

theorem f12_eq (x : List (BitVec 16)) (h : x.length ≤ 65536) : f12 x = some x := by
  unfold f12
  rw [abc_eq (fun h0 => by rw [List.length_eq_zero_iff.1 h0]; rfl), chk_pos (by omega)]
  rfl
theorem f43_L0_eq (K1 : List (BitVec 16) → Option (List (BitVec 16))) (r2 : List (BitVec 16)) (hx : r2.length ≤ 65536) : f43_L0 K1 r2 FUEL (0, []) = K1 (greedy (fun y a => sub y a) r2) := by
  refine (fold_up (f43_L0 K1 r2) r2 0#16 (fun n l => l.length ≤ n) (fun out a => if out.any (fun y => sub y a) then out else out ++ [a]) K1 ?_ ?_ ?_ r2.length FUEL 0 [] (by omega) (fuel_lt (by omega)) (Nat.le_refl _)).trans rfl
  · intro k n s hn hi
    rw [f43_L0.eq_2, ifd_pos (by omega), jn_eq, chk_pos (by omega), chk_pos (by omega), f27_eq _ _ (by omega), some_bind]
    cases h : s.any (fun y => sub y (r2.getD n 0#16)) with
    | true => simp only [Bool.not_true, Bool.false_eq_true, if_false]; rw [chk_pos (by omega)]; simp
    | false => simp only [Bool.not_false, if_true]; rw [chk_pos (by omega), chk_pos (by omega)]; simp
  · intro n s hn hi
    split
    · omega
    · simp; omega
  · intro k s hi
    rw [f43_L0.eq_2, ifd_neg (by omega)]
/-! ### slices.Compact on a sorted list -/
/-- what the loop holds: the first m of the list done, n3 places kept -/
def CInv (x l : List (BitVec 16)) (n3 m : Nat) : Prop := l.length = x.length ∧ 0 < m ∧ m ≤ x.length ∧ n3 < m ∧ 0 < n3 ∧ l.take n3 = dd (x.take m) ∧ ∀ j, m ≤ j + 1 → l.getD j 0#16 = x.getD j 0#16
theorem take_succ_getD {α : Type} (x : List α) (n : Nat) (d : α) (h : n < x.length) : x.take (n + 1) = x.take n ++ [x.getD n d] := by
  rw [List.take_add_one]
  simp [List.getD_eq_getElem?_getD, h]
theorem dd_take_last (x : List (BitVec 16)) (m : Nat) (h0 : 0 < m) (hm : m ≤ x.length) : (dd (x.take m)).getLast? = some (x.getD (m - 1) 0#16) := by
  rw [dd_last]
  obtain ⟨k, rfl⟩ : ∃ k, m = k + 1 := ⟨m - 1, by omega⟩
  rw [take_succ_getD x k 0#16 (by omega)]
  simp
theorem dd_take_succ (x : List (BitVec 16)) (m : Nat) (h0 : 0 < m) (hm : m < x.length) : dd (x.take (m + 1)) = if x.getD m 0#16 = x.getD (m - 1) 0#16 then dd (x.take m) else dd (x.take m) ++ [x.getD m 0#16] := by
  rw [take_succ_getD x m 0#16 hm, dd_snoc]
  unfold ddS
  rw [dd_take_last x m h0 (by omega)]
  by_cases h : x.getD m 0#16 = x.getD (m - 1) 0#16
  · rw [if_pos h, if_pos (by rw [h])]
  · rw [if_neg h, if_neg (by intro e; exact h (Option.some.inj e).symm)]
theorem f85_L1_eq (x : List (BitVec 16)) (n2 : Nat) (K : Nat × List (BitVec 16) → Option (List (BitVec 16))) (R : Option (List (BitVec 16))) (hx : x.length ≤ 65536) (hn2 : n2 < x.length) (h2 : 0 < n2)
    (hK : ∀ n3 l, CInv x l n3 x.length → K (n3, l) = R) : ∀ c k n3 n4 l, n2 + n4 + c = x.length → 0 < n4 → c < k → CInv x l n3 (n2 + n4) → f85_L1 x n2 K k (n3, n4, l) = R
  | 0, k, n3, n4, l, hc, h4, hk, hi => by
    obtain ⟨k, rfl⟩ : ∃ q, k = q + 1 := ⟨k - 1, by omega⟩
    rw [f85_L1.eq_2, ifd_neg (by omega)]
    exact hK _ _ (by rw [show x.length = n2 + n4 by omega]; exact hi)
  | c + 1, k, n3, n4, l, hc, h4, hk, hi => by
    obtain ⟨k, rfl⟩ : ∃ q, k = q + 1 := ⟨k - 1, by omega⟩
    obtain ⟨i1, i2, i3, i4, i5, i6, i7⟩ := hi
    have ht : (((n4 : Nat) : Int) - (1 : Int)).toNat = n4 - 1 := by omega
    rw [f85_L1.eq_2, ifd_pos (by omega), jn_eq, chk_pos (by omega), chk_pos (by omega), chk_pos (by omega), chk_pos (by omega), chk_pos (by omega), ht]
    have e1 := i7 (n2 + n4) (by omega)
    have e2 := i7 (n2 + (n4 - 1)) (by omega)
    rw [e1, e2]
    have hs := dd_take_succ x (n2 + n4) (by omega) (by omega)
    rw [show n2 + n4 - 1 = n2 + (n4 - 1) by omega] at hs
    by_cases he : x.getD (n2 + n4) 0#16 = x.getD (n2 + (n4 - 1)) 0#16
    · rw [if_pos he] at hs
      rw [if_neg (by rw [he]; simp)]
      dsimp only
      rw [chk_pos (by omega)]
      exact f85_L1_eq x n2 K R hx hn2 h2 hK c k n3 (n4 + 1) l (by omega) (by omega) (by omega) ⟨i1, by omega, by omega, by omega, i5, by rw [i6, ← hs]; rfl, fun j hj => i7 j (by omega)⟩
    · rw [if_neg he] at hs
      rw [if_pos (by simpa using he), chk_pos (by omega), chk_pos (by omega), chk_pos (by omega), chk_pos (by omega), chk_pos (by omega)]
      dsimp only
      rw [chk_pos (by omega)]
      refine f85_L1_eq x n2 K R hx hn2 h2 hK c k (n3 + 1) (n4 + 1) _ (by omega) (by omega) (by omega) ⟨by simp [i1], by omega, by omega, by omega, by omega, ?_, fun j hj => ?_⟩
      · rw [show n2 + (n4 + 1) = n2 + n4 + 1 by omega, hs, ← i6, take_succ_getD _ n3 0#16 (by simp; omega), List.take_set_of_le (Nat.le_refl _)]
        have : n3 < l.length := by omega
        simp [List.getD_eq_getElem?_getD, this]
      · have : n3 ≠ j := by omega
        rw [← i7 j (by omega)]
        simp [List.getD_eq_getElem?_getD, List.getElem?_set_ne this]
theorem dd_take_of_ne (x : List (BitVec 16)) : ∀ n, n ≤ x.length → (∀ j, 0 < j → j < n → x.getD j 0#16 ≠ x.getD (j - 1) 0#16) → dd (x.take n) = x.take n
  | 0, _, _ => by simp [dd]
  | n + 1, hn, h => by
    have ih := dd_take_of_ne x n (by omega) fun j h1 h2 => h j h1 (by omega)
    by_cases h0 : n = 0
    · subst h0
      rw [take_succ_getD x 0 0#16 (by omega)]
      simp [dd, ddS]
    · rw [dd_take_succ x n (by omega) (by omega), if_neg (h n (by omega) (by omega)), ih, ← take_succ_getD x n 0#16 (by omega)]
theorem f85_L0_eq (x : List (BitVec 16)) (K : Unit → Option (List (BitVec 16))) (hK : K () = some x) (hx : x.length ≤ 65536) : ∀ c k n, n + c = x.length → 0 < n → c < k → (∀ j, 0 < j → j < n → x.getD j 0#16 ≠ x.getD (j - 1) 0#16) → f85_L0 x K k n = some (dd x)
  | 0, k, n, hc, h0, hk, hi => by
    obtain ⟨k, rfl⟩ : ∃ q, k = q + 1 := ⟨k - 1, by omega⟩
    rw [f85_L0.eq_2, ifd_neg (by omega), hK]
    have := dd_take_of_ne x n (by omega) hi
    rw [List.take_of_length_le (by omega)] at this
    rw [this]
  | c + 1, k, n, hc, h0, hk, hi => by
    obtain ⟨k, rfl⟩ : ∃ q, k = q + 1 := ⟨k - 1, by omega⟩
    have ht : (((n : Nat) : Int) - (1 : Int)).toNat = n - 1 := by omega
    rw [f85_L0.eq_2, ifd_pos (by omega), chk_pos (by omega), chk_pos (by omega), chk_pos (by omega), chk_pos (by omega), chk_pos (by omega), ht]
    by_cases he : x.getD n 0#16 = x.getD (n - 1) 0#16
    · rw [if_pos (by rw [he]; simp), chk_pos (by omega), jn_eq]
      have hd := dd_take_of_ne x n (by omega) hi
      have hs := dd_take_succ x n (by omega) (by omega)
      rw [if_pos he, hd] at hs
      refine f85_L1_eq x n _ _ hx (by omega) h0 (fun n3 l hi2 => ?_) c FUEL n 1 x (by omega) (by omega) (fuel_lt (by omega)) ⟨rfl, by omega, by omega, by omega, h0, hs.symm, fun j _ => rfl⟩
      obtain ⟨i1, i2, i3, i4, i5, i6, i7⟩ := hi2
      dsimp only
      rw [chk_pos (by omega), chk_pos (by omega), chk_pos (by simp; omega), chk_pos (by simp; omega)]
      rw [List.take_append_of_le_length (by simp; omega), List.take_take, Nat.min_self, i6, List.take_of_length_le (Nat.le_refl _)]
    · rw [if_neg (by simpa using he), chk_pos (by omega)]
      refine f85_L0_eq x K hK hx c k (n + 1) (by omega) (by omega) (by omega) fun j h1 h2 => ?_
      by_cases e : j = n
      · subst e; exact he
      · exact hi j h1 (by omega)
theorem f85_eq (x : List (BitVec 16)) (hx : x.length ≤ 65536) : f85 x = some (dd x) := by
  unfold f85
  by_cases h : x.length < 2
  · rw [ifd_pos (by omega)]
    match x, h with
    | [], _ => rfl
    | [a], _ => rfl
    | a :: b :: l, h => simp at h; omega
  · rw [ifd_neg (by omega), jn_eq]
    exact f85_L0_eq x _ rfl hx (x.length - 1) FUEL 1 (by omega) (by omega) (fuel_lt (by omega)) (fun j h1 h2 => by omega)
theorem f84_eq (x : List (BitVec 16)) (hx : x.length ≤ 65536) : f84 x = some (isortK key x) := by
  unfold f84 sortO; rw [if_pos (by omega)]
theorem f67_eq (x : List (BitVec 16)) (hx : x.length ≤ 65536) : f67 x = some (srt x) := by
  unfold f67
  have := (isortK_perm (k := key) x).length_eq
  rw [f12_eq x hx, some_bind, f84_eq x hx, some_bind, f85_eq _ (by omega), some_bind]
  rfl
theorem f43_eq (x : List (BitVec 16)) (hx : x.length ≤ 65536) : f43 x = some (leastP x) := by
  unfold f43
  have := srt_len x
  rw [jn_eq, f67_eq x hx, some_bind, f43_L0_eq _ _ (by omega)]
  rfl
/-! ### greatest -/
theorem f70_eq (x s : BitVec 16) : f70 x s = some (sub s x, s) := rfl
theorem f73b_L0_eq (x : List (BitVec 16)) (K : BitVec 16 → Option (Int × BitVec 16)) (s : BitVec 16) (hx : x.length ≤ 65536) : ∃ m : Nat, f73b_L0 x K FUEL (0, s) = if x.any (fun y => sub s y) = true then some ((m : Int), s) else K s := by
  rcases find_up (fun k n => f73b_L0 x K k (n, s)) x 0#16 (fun y => sub s y) (fun m => some ((m : Int), s)) (K s) (fun k n hn => by
    show f73b_L0 x K (k + 1) (n, s) = _
    rw [f73b_L0.eq_2, ifd_pos (by omega), f70_eq, some_bind, chk_pos (by omega)]
    dsimp only
    rw [chk_pos (by omega)]) (fun k => by
    show f73b_L0 x K (k + 1) (x.length, s) = _
    rw [f73b_L0.eq_2, ifd_neg (by omega)]) x.length FUEL 0 (by omega) (fuel_lt (by omega)) with ⟨m, _, _, _, h1, h2⟩ | ⟨h1, h2⟩
  · exact ⟨m, by rw [if_pos (by simpa using h2)]; exact h1⟩
  · exact ⟨0, by rw [if_neg (by simpa using h2)]; exact h1⟩
theorem f53b_eq (x : List (BitVec 16)) (s : BitVec 16) (hx : x.length ≤ 65536) : f53b x s = some (x.any (fun y => sub s y), s) := by
  unfold f53b f73b
  rw [jn_eq]
  obtain ⟨m, h⟩ := f73b_L0_eq x (fun w6 => some ((-1 : Int), w6)) s hx
  rw [h]
  cases h2 : x.any (fun y => sub s y) with
  | true => simp
  | false => simp
theorem f86_L0_eq (x : List (BitVec 16)) (hx : x.length ≤ 65536) : ∀ n k out, n ≤ x.length → n < k → out.length + n ≤ 65536 →
    f86_L0 f46_Y70001 k (((n : Nat) : Int) - 1, x, out, 0) = some (0, ((x.take n).reverse).foldl (fun out a => if out.any (fun y => sub a y) then out else out ++ [a]) out, x)
  | 0, k, out, hn, hk, ho => by
    obtain ⟨k, rfl⟩ : ∃ q, k = q + 1 := ⟨k - 1, by omega⟩
    rw [f86_L0.eq_2, ifd_neg (by omega)]
    rfl
  | n + 1, k, out, hn, hk, ho => by
    obtain ⟨k, rfl⟩ : ∃ q, k = q + 1 := ⟨k - 1, by omega⟩
    have e : (((n + 1 : Nat) : Int) - 1) = (n : Int) := by omega
    rw [e, f86_L0.eq_2, ifd_pos (by omega), jn_eq, chk_pos rfl]
    have e2 : ((n : Int)).toNat = n := by omega
    rw [e2]
    have hy : f46_Y70001 (out, x) ((n : Int), x.getD n 0#16) = some (0, (if out.any (fun y => sub (x.getD n 0#16) y) then out else out ++ [x.getD n 0#16]), x) := by
      show (f53b out (x.getD n 0#16)).bind _ = _
      rw [f53b_eq _ _ (by omega), some_bind]
      cases h : out.any (fun y => sub (x.getD n 0#16) y) with
      | true => simp
      | false =>
        simp only [Bool.not_false, if_true]
        rw [chk_pos (by omega)]; simp
    rw [hy, some_bind, if_pos rfl, chk_pos (by omega), if_neg (by simp)]
    dsimp only
    rw [chk_pos (by omega)]
    have := f86_L0_eq x hx n k (if out.any (fun y => sub (x.getD n 0#16) y) then out else out ++ [x.getD n 0#16]) (by omega) (by omega) (by split; exact (by omega); exact (by simp only [List.length_append, List.length_singleton]; omega))
    rw [this, take_succ_getD x n 0#16 (by omega)]
    simp
theorem f71_L0_eq (x : List (BitVec 16)) (hx : x.length ≤ 65536) : ∀ c k n l, 2 * n + c = x.length → c < k → l.length = x.length → (∀ j, (j < n ∨ x.length ≤ j + n) → j < x.length → l.getD j 0#16 = x.getD (x.length - 1 - j) 0#16) → (∀ j, n ≤ j → j + n < x.length → l.getD j 0#16 = x.getD j 0#16) →
    f71_L0 k (n, ((x.length : Nat) : Int) - 1 - n, l) = some x.reverse
  | c, 0, n, l, hc, hk, hl, h1, h2 => by omega
  | c, k + 1, n, l, hc, hk, hl, h1, h2 => by
    rw [f71_L0.eq_2]
    by_cases h : 2 ≤ c
    · have e : (((x.length : Nat) : Int) - 1 - n).toNat = x.length - 1 - n := by omega
      rw [ifd_pos (by omega), chk_pos (by omega), chk_pos (by omega), chk_pos (by omega), chk_pos (by omega), chk_pos (by omega), chk_pos (by omega), chk_pos (by omega), chk_pos (by omega), chk_pos (by omega), chk_pos (by omega), e]
      have e2 : ((x.length : Nat) : Int) - 1 - n - 1 = ((x.length : Nat) : Int) - 1 - ((n + 1 : Nat) : Int) := by omega
      rw [e2]
      refine f71_L0_eq x hx (c - 2) k (n + 1) _ (by omega) (by omega) (by simp [hl]) (fun j hj hjl => ?_) (fun j hj hjl => ?_)
      · by_cases ej : j = x.length - 1 - n
        · subst ej
          have : x.length - 1 - n < l.length := by omega
          rw [h2 n (Nat.le_refl _) (by omega)]
          simp [List.getD_eq_getElem?_getD, this]
          rw [show x.length - 1 - (x.length - 1 - n) = n by omega]
        · by_cases en : j = n
          · subst en
            have : j < l.length := by omega
            rw [h2 (x.length - 1 - j) (by omega) (by omega)]
            rw [List.getD_eq_getElem?_getD, List.getElem?_set_ne (Ne.symm ej)]
            simp [this]
          · rw [← h1 j (by omega) hjl]
            simp [List.getD_eq_getElem?_getD, List.getElem?_set_ne (Ne.symm ej), List.getElem?_set_ne (Ne.symm en)]
      · rw [← h2 j (by omega) (by omega)]
        have ej : x.length - 1 - n ≠ j := by omega
        have en : n ≠ j := by omega
        simp [List.getD_eq_getElem?_getD, List.getElem?_set_ne ej, List.getElem?_set_ne en]
    · rw [ifd_neg (by omega)]
      congr 1
      apply List.ext_getElem (by simp [hl])
      intro j hj1 hj2
      have hjx : j < x.length := by omega
      have : l.getD j 0#16 = x.getD (x.length - 1 - j) 0#16 := by
        by_cases hj : j < n ∨ x.length ≤ j + n
        · exact h1 j hj hjx
        · rw [h2 j (by omega) (by omega)]
          congr 1; omega
      have h3 : x.length - 1 - j < x.length := by omega
      simp [List.getD_eq_getElem?_getD, hj1, h3] at this
      rw [List.getElem_reverse, this]
theorem f71_eq (x : List (BitVec 16)) (hx : x.length ≤ 65536) : f71 x = some x.reverse := by
  unfold f71
  rw [chk_pos (by omega)]
  have := f71_L0_eq x hx x.length FUEL 0 x (by omega) (fuel_lt (by omega)) rfl (fun j h1 h2 => by omega) (fun _ _ _ => rfl)
  simpa using this
theorem greedy_len {α : Type} (T : α → α → Bool) (s : List α) : (greedy T s).length ≤ s.length := by
  suffices H : ∀ (l out : List α), (l.foldl (fun out a => if out.any (fun y => T y a) then out else out ++ [a]) out).length ≤ out.length + l.length by simpa [greedy] using H s []
  intro l
  induction l with
  | nil => intro out; simp
  | cons a l ih =>
    intro out
    rw [List.foldl_cons]
    have := ih (if out.any (fun y => T y a) then out else out ++ [a])
    have h2 : (if out.any (fun y => T y a) then out else out ++ [a]).length ≤ out.length + 1 := by split <;> simp
    simp only [List.length_cons]; omega
theorem f46_eq (x : List (BitVec 16)) (hx : x.length ≤ 65536) : f46 x = some (greatestP x) := by
  unfold f46 f69 f86
  have hl := srt_len x
  rw [f67_eq x hx, some_bind, some_bind]
  rw [chk_pos (by omega), f86_L0_eq (srt x) (by omega) (srt x).length FUEL [] (Nat.le_refl _) (fuel_lt (by omega)) (by simp; omega), some_bind, List.take_of_length_le (Nat.le_refl _)]
  have hg := greedy_len (fun y a => sub a y) (srt x).reverse
  rw [chk_pos (by simp), if_pos rfl, f71_eq _ (by show (greedy (fun y a => sub a y) (srt x).reverse).length ≤ 65536; simp at hg; omega), some_bind]
  rfl
end Go.Abs
