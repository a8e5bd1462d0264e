/- Chapter 08: validity; what accepts; the small functions of the laws. -/
import Derived.Test.YtncjecbhohcfoaaDoorPl08
import Derived.Test.YtncjecbhohcfoaaDoorFam2
namespace Go.Abs
def scan0 (x : List (BitVec 16)) : Nat → Nat → Option Int
  | 0, _ => none
  | c + 1, n => if (x.getD n 0#16).toNat < 4096 then (if decide (n > 0) && !(ltS (x.getD (n - 1) 0#16) (x.getD n 0#16)) then some 1 else scan0 x c (n + 1)) else some 7
def orK (e : Option Int) (K : Unit → Option Int) : Option Int := match e with
  | some e => some e
  | none => K ()

theorem f11_L0_eq (x : List (BitVec 16)) (K : Unit → Option Int) (hx : x.length ≤ 65536) : ∀ (c k n : Nat), n + c = x.length → c < k → f11_L0 x K k n = orK (scan0 x c n) K
  | 0, k, n, hn, hk => by
    obtain ⟨k, rfl⟩ : ∃ q, k = q + 1 := ⟨k - 1, by omega⟩
    rw [f11_L0.eq_2, if_neg (by simp; omega)]
    rfl
  | c + 1, k, n, hn, hk => by
    obtain ⟨k, rfl⟩ : ∃ q, k = q + 1 := ⟨k - 1, by omega⟩
    have ih := f11_L0_eq x K hx c k (n + 1) (by omega) (by omega)
    rw [f11_L0.eq_2, if_pos (by simp; omega)]
    unfold chk scan0
    rw [if_pos (by omega), outside_eq]
    by_cases hr : (x.getD n 0#16).toNat < 4096
    · rw [if_pos hr, if_neg (by simp only [hr]; simp)]
      obtain ⟨r, h1, h2⟩ := f38_eq (x.getD (((n : Int) - 1).toNat) 0#16) (x.getD n 0#16)
      have hn1 : ((n : Int) - 1).toNat = n - 1 := by omega
      rw [hn1] at h1 h2
      unfold optc
      by_cases h0 : n > 0
      · have h0' : ((decide ((n : Int) > 0)) == true) = true := by simp; omega
        rw [if_pos h0', hn1, h1]
        simp only [Option.bind_some]
        rw [if_pos (by omega), if_pos (by omega)]
        by_cases hl : ltS (x.getD (n - 1) 0#16) (x.getD n 0#16) = true
        · have : ¬ (r ≥ 0) := fun h => by rw [h2.1 h] at hl; cases hl
          rw [if_neg (by simp [this]), if_pos (by omega), ih, hl]
          simp
        · have hl : ltS (x.getD (n - 1) 0#16) (x.getD n 0#16) = false := by simpa using hl
          rw [if_pos (by simp [h2.2 hl]; omega), hl]
          simp [h0, orK]
      · have h0' : ¬ ((decide ((n : Int) > 0)) == true) = true := by simp; omega
        have h0'' : ¬ (decide ((n : Int) > 0)) = true := by simp; omega
        rw [if_neg h0']
        dsimp only
        rw [if_pos (fun h => absurd h h0'), if_pos (fun h => absurd h h0'), if_neg (by simp; omega), if_pos (by omega), ih, if_neg (by simp; omega)]
    · rw [if_neg hr, if_pos (by simp only [hr]; simp)]
      rfl

theorem f13_L0_eq (x : List (BitVec 16)) (K : Unit → Option Int) (hx : x.length ≤ 65536) : ∀ (c k n : Nat), n + c = x.length → c < k → f13_L0 x K k n = orK (scan0 x c n) K
  | 0, k, n, hn, hk => by
    obtain ⟨k, rfl⟩ : ∃ q, k = q + 1 := ⟨k - 1, by omega⟩
    rw [f13_L0.eq_2, if_neg (by simp; omega)]
    rfl
  | c + 1, k, n, hn, hk => by
    obtain ⟨k, rfl⟩ : ∃ q, k = q + 1 := ⟨k - 1, by omega⟩
    have ih := f13_L0_eq x K hx c k (n + 1) (by omega) (by omega)
    rw [f13_L0.eq_2, if_pos (by simp; omega), f39_eq]
    simp only [Option.bind_some]
    unfold chk scan0
    rw [if_pos (by omega)]
    by_cases hr : (x.getD n 0#16).toNat < 4096
    · rw [if_pos hr, if_neg (by simp only [hr]; simp)]
      have hn1 : ((n : Int) - 1).toNat = n - 1 := by omega
      unfold optc
      by_cases h0 : n > 0
      · have h0' : ((decide ((n : Int) > 0)) == true) = true := by simp; omega
        rw [if_pos h0', hn1, f40_eq]
        simp only [Option.bind_some]
        rw [if_pos (by omega), if_pos (by omega), if_pos (by omega)]
        by_cases hl : ltS (x.getD (n - 1) 0#16) (x.getD n 0#16) = true
        · rw [hl, if_neg (by simp), if_pos (by omega), ih]
          simp
        · have hl : ltS (x.getD (n - 1) 0#16) (x.getD n 0#16) = false := by simpa using hl
          rw [hl, if_pos (by simp; omega)]
          simp [h0, orK]
      · have h0' : ¬ ((decide ((n : Int) > 0)) == true) = true := by simp; omega
        rw [if_neg h0']
        dsimp only
        rw [if_pos (fun h => absurd h h0'), if_pos (fun h => absurd h h0'), if_pos (fun h => absurd h h0'), if_neg (by simp; omega), if_pos (by omega), ih, if_neg (by simp; omega)]
    · rw [if_neg hr, if_pos (by simp only [hr]; simp)]
      rfl
/-- a later set of the list that holds an earlier one -/
def bad1 (x : List (BitVec 16)) : Nat → Nat → Bool
  | 0, _ => false
  | c + 1, n => (x.take n).any (fun y => sub y (x.getD n 0#16)) || bad1 x c (n + 1)
theorem f11_L1_eq (x : List (BitVec 16)) (K : Unit → Option Int) (hx : x.length ≤ 65536) : ∀ (c k n : Nat), n + c = x.length → c < k → f11_L1 x K k n = if bad1 x c n = true then some 1 else K ()
  | 0, k, n, hn, hk => by
    obtain ⟨k, rfl⟩ : ∃ q, k = q + 1 := ⟨k - 1, by omega⟩
    rw [f11_L1.eq_2, if_neg (by simp; omega), if_neg (by simp [bad1])]
  | c + 1, k, n, hn, hk => by
    obtain ⟨k, rfl⟩ : ∃ q, k = q + 1 := ⟨k - 1, by omega⟩
    have ih := f11_L1_eq x K hx c k (n + 1) (by omega) (by omega)
    rw [f11_L1.eq_2, if_pos (by simp; omega), f27_eq _ _ (by simp; omega)]
    simp only [Option.bind_some]
    unfold chk
    rw [if_pos (by omega), if_pos (by omega)]
    by_cases h : ((x.take n).any fun y => sub y (x.getD n 0#16)) = true
    · rw [if_pos h, if_pos (by simp only [bad1, h, Bool.true_or])]
    · rw [if_neg h, if_pos (by omega), ih]
      have h : ((x.take n).any fun y => sub y (x.getD n 0#16)) = false := by simpa using h
      simp only [bad1, h, Bool.false_or]
def badk (x : List (BitVec 16)) (i : Nat) : Nat → Nat → Bool
  | 0, _ => false
  | c + 1, n => (i != n && sub (x.getD n 0#16) (x.getD i 0#16)) || badk x i c (n + 1)
theorem f13_L2_eq (x : List (BitVec 16)) (i : Nat) (K : Unit → Option Int) (hi : i < x.length) (hx : x.length ≤ 65536) : ∀ (c k n : Nat), n + c = x.length → c < k → f13_L2 x i K k n = if badk x i c n = true then some 1 else K ()
  | 0, k, n, hn, hk => by
    obtain ⟨k, rfl⟩ : ∃ q, k = q + 1 := ⟨k - 1, by omega⟩
    rw [f13_L2.eq_2, if_neg (by simp; omega), if_neg (by simp [badk])]
  | c + 1, k, n, hn, hk => by
    obtain ⟨k, rfl⟩ : ∃ q, k = q + 1 := ⟨k - 1, by omega⟩
    have ih := f13_L2_eq x i K hi hx c k (n + 1) (by omega) (by omega)
    have hin : ((i : Int) != (n : Int)) = (i != n) := by
      rw [Bool.eq_iff_iff]; simp; omega
    rw [f13_L2.eq_2, if_pos (by simp; omega), f41_eq, hin]
    unfold chk optc
    by_cases h : (i != n) = true
    · rw [h]
      simp only [Option.bind_some, beq_self_eq_true, if_true, Bool.true_and]
      rw [if_pos (fun _ => by omega), if_pos (fun _ => by omega)]
      by_cases hs : sub (x.getD n 0#16) (x.getD i 0#16) = true
      · rw [if_pos hs]
        simp only [badk, h, hs, Bool.and_self, Bool.true_or, if_true]
      · rw [if_neg hs, if_pos (by omega), ih]
        have hs : sub (x.getD n 0#16) (x.getD i 0#16) = false := by simpa using hs
        simp only [badk, h, hs, Bool.and_false, Bool.false_or]
    · have h : (i != n) = false := by simpa using h
      rw [h]
      simp only [Bool.false_and, Bool.false_eq_true, if_false, beq_iff_eq, false_implies, if_true]
      rw [if_pos (by omega), ih]
      simp only [badk, h, Bool.false_and, Bool.false_or]
def bad2 (x : List (BitVec 16)) : Nat → Nat → Bool
  | 0, _ => false
  | c + 1, n => badk x n x.length 0 || bad2 x c (n + 1)
theorem f13_L1_eq (x : List (BitVec 16)) (K : Unit → Option Int) (hx : x.length ≤ 65536) : ∀ (c k n : Nat), n + c = x.length → c < k → f13_L1 x K k n = if bad2 x c n = true then some 1 else K ()
  | 0, k, n, hn, hk => by
    obtain ⟨k, rfl⟩ : ∃ q, k = q + 1 := ⟨k - 1, by omega⟩
    rw [f13_L1.eq_2, if_neg (by simp; omega), if_neg (by simp [bad2])]
  | c + 1, k, n, hn, hk => by
    obtain ⟨k, rfl⟩ : ∃ q, k = q + 1 := ⟨k - 1, by omega⟩
    have ih := f13_L1_eq x K hx c k (n + 1) (by omega) (by omega)
    rw [f13_L1.eq_2, if_pos (by simp; omega)]
    unfold jn
    dsimp only
    rw [f13_L2_eq x n _ (by omega) hx x.length FUEL 0 (by omega) (by unfold FUEL; omega)]
    unfold chk
    by_cases h : badk x n x.length 0 = true
    · rw [if_pos h, if_pos (by simp only [bad2, h, Bool.true_or])]
    · rw [if_neg h, if_pos (by omega), ih]
      have h : badk x n x.length 0 = false := by simpa using h
      simp only [bad2, h, Bool.false_or]

theorem scan0_none (x : List (BitVec 16)) : ∀ (c n : Nat), scan0 x c n = none → ∀ m, n ≤ m → m < n + c → m > 0 → ltS (x.getD (m - 1) 0#16) (x.getD m 0#16) = true
  | 0, n, _, m, h1, h2, _ => by omega
  | c + 1, n, h, m, h1, h2, h3 => by
    unfold scan0 at h
    split at h
    · split at h
      · cases h
      · rename_i h4
        by_cases e : m = n
        · subst e
          simpa [h3] using h4
        · exact scan0_none x c (n + 1) h m (by omega) (by omega) h3
    · cases h
theorem key_mono (x : List (BitVec 16)) (h : scan0 x x.length 0 = none) (i : Nat) : ∀ d, i + d + 1 < x.length → key (x.getD i 0#16) < key (x.getD (i + d + 1) 0#16)
  | 0, hd => by
    have := ltS_key.1 (scan0_none x _ 0 h (i + 1) (by omega) (by omega) (by omega))
    simpa using this
  | d + 1, hd => by
    have h1 := key_mono x h i d (by omega)
    have h2 := ltS_key.1 (scan0_none x _ 0 h (i + (d + 1) + 1) (by omega) (by omega) (by omega))
    rw [show i + (d + 1) + 1 - 1 = i + d + 1 by omega] at h2
    omega
theorem bad1_iff (x : List (BitVec 16)) : ∀ (c n : Nat), n + c = x.length → (bad1 x c n = true ↔ ∃ m j, n ≤ m ∧ m < x.length ∧ j < m ∧ sub (x.getD j 0#16) (x.getD m 0#16) = true)
  | 0, n, hn => by
    simp only [bad1, Bool.false_eq_true, false_iff]
    rintro ⟨m, j, h1, h2, _⟩; omega
  | c + 1, n, hn => by
    simp only [bad1, Bool.or_eq_true, bad1_iff x c (n + 1) (by omega), List.any_eq_true]
    constructor
    · rintro (⟨y, hy, hs⟩ | ⟨m, j, h1, h2, h3, h4⟩)
      · obtain ⟨j, hj, rfl⟩ := List.getElem_of_mem hy
        have hj' : j < n := by simp at hj; omega
        refine ⟨n, j, Nat.le_refl _, by omega, hj', ?_⟩
        have hl : j < x.length := by omega
        simpa [List.getD_eq_getElem?_getD, hl] using hs
      · exact ⟨m, j, by omega, h2, h3, h4⟩
    · rintro ⟨m, j, h1, h2, h3, h4⟩
      by_cases e : m = n
      · subst e
        refine .inl ⟨x.getD j 0#16, ?_, h4⟩
        have hl : j < x.length := by omega
        have : x.getD j 0#16 = (x.take m)[j]'(by simp; omega) := by simp [List.getD_eq_getElem?_getD, hl]
        rw [this]; exact List.getElem_mem _
      · exact .inr ⟨m, j, by omega, h2, h3, h4⟩
theorem badk_iff (x : List (BitVec 16)) (i : Nat) : ∀ (c n : Nat), n + c = x.length → (badk x i c n = true ↔ ∃ k, n ≤ k ∧ k < x.length ∧ i ≠ k ∧ sub (x.getD k 0#16) (x.getD i 0#16) = true)
  | 0, n, hn => by
    simp only [badk, Bool.false_eq_true, false_iff]
    rintro ⟨m, h1, h2, _⟩; omega
  | c + 1, n, hn => by
    simp only [badk, Bool.or_eq_true, Bool.and_eq_true, bne_iff_ne, badk_iff x i c (n + 1) (by omega)]
    constructor
    · rintro (⟨h1, h2⟩ | ⟨k, h1, h2, h3⟩)
      · exact ⟨n, Nat.le_refl _, by omega, h1, h2⟩
      · exact ⟨k, by omega, h2, h3⟩
    · rintro ⟨k, h1, h2, h3, h4⟩
      by_cases e : k = n
      · subst e; exact .inl ⟨h3, h4⟩
      · exact .inr ⟨k, by omega, h2, h3, h4⟩
theorem bad2_iff (x : List (BitVec 16)) : ∀ (c n : Nat), n + c = x.length → (bad2 x c n = true ↔ ∃ i k, n ≤ i ∧ i < x.length ∧ k < x.length ∧ i ≠ k ∧ sub (x.getD k 0#16) (x.getD i 0#16) = true)
  | 0, n, hn => by
    simp only [bad2, Bool.false_eq_true, false_iff]
    rintro ⟨m, j, h1, h2, _⟩; omega
  | c + 1, n, hn => by
    simp only [bad2, Bool.or_eq_true, badk_iff x n x.length 0 (by omega), bad2_iff x c (n + 1) (by omega)]
    constructor
    · rintro (⟨k, _, h2, h3, h4⟩ | ⟨i, k, h1, h2, h3, h4, h5⟩)
      · exact ⟨n, k, Nat.le_refl _, by omega, h2, h3, h4⟩
      · exact ⟨i, k, by omega, h2, h3, h4, h5⟩
    · rintro ⟨i, k, h1, h2, h3, h4, h5⟩
      by_cases e : i = n
      · subst e; exact .inl ⟨k, by omega, h3, h4, h5⟩
      · exact .inr ⟨i, k, by omega, h2, h3, h4, h5⟩
theorem bad_eq (x : List (BitVec 16)) (h : scan0 x x.length 0 = none) : bad1 x x.length 0 = bad2 x x.length 0 := by
  rw [Bool.eq_iff_iff, bad1_iff x _ 0 (by omega), bad2_iff x _ 0 (by omega)]
  constructor
  · rintro ⟨m, j, _, h2, h3, h4⟩
    exact ⟨m, j, by omega, h2, by omega, by omega, h4⟩
  · rintro ⟨i, k, _, h2, h3, h4, h5⟩
    rcases Nat.lt_or_gt_of_ne h4 with hlt | hlt
    · exfalso
      obtain ⟨d, rfl⟩ : ∃ d, k = i + d + 1 := ⟨k - i - 1, by omega⟩
      have hk := key_mono x h i d h3
      obtain ⟨h6, h7⟩ := sub_sz h5
      have hb := (x.getD i 0#16).isLt
      have hb2 := (x.getD (i + d + 1) 0#16).isLt
      have hk2 := hk
      unfold key at hk
      have : sz (x.getD (i + d + 1) 0#16) = sz (x.getD i 0#16) := by omega
      rw [h7 this] at hk2
      omega
    · exact ⟨i, k, by omega, h2, hlt, h5⟩
theorem f11_big (x : List (BitVec 16)) (h : 400 < x.length) : f11 x = some 3 := by
  unfold f11; rw [if_pos (by simp; omega)]
theorem f13_big (x : List (BitVec 16)) (h : 400 < x.length) : f13 x = some 3 := by
  unfold f13; rw [if_pos (by simp; omega)]
theorem f11_val (x : List (BitVec 16)) (h : x.length ≤ 400) : f11 x = orK (scan0 x x.length 0) fun _ => if bad1 x x.length 0 = true then some 1 else some 0 := by
  unfold f11; rw [if_neg (by simp; omega)]
  rw [jn_eq, f11_L0_eq x _ (by omega) x.length FUEL 0 (by omega) (fuel_lt (by omega))]
  refine congrArg (orK (scan0 x x.length 0)) (funext fun _ => ?_)
  rw [jn_eq, f11_L1_eq x _ (by omega) x.length FUEL 0 (by omega) (fuel_lt (by omega))]
theorem f13_val (x : List (BitVec 16)) (h : x.length ≤ 400) : f13 x = orK (scan0 x x.length 0) fun _ => if bad2 x x.length 0 = true then some 1 else some 0 := by
  unfold f13; rw [if_neg (by simp; omega)]
  rw [jn_eq, f13_L0_eq x _ (by omega) x.length FUEL 0 (by omega) (fuel_lt (by omega))]
  refine congrArg (orK (scan0 x x.length 0)) (funext fun _ => ?_)
  rw [jn_eq, f13_L1_eq x _ (by omega) x.length FUEL 0 (by omega) (fuel_lt (by omega))]
theorem f11_f13 (x : List (BitVec 16)) : ∃ e, f11 x = some e ∧ f13 x = some e := by
  by_cases h : 400 < x.length
  · exact ⟨3, f11_big x h, f13_big x h⟩
  · rw [f11_val x (by omega), f13_val x (by omega)]
    cases hs : scan0 x x.length 0 with
    | some e => simp only [orK]; exact ⟨e, rfl, rfl⟩
    | none =>
      simp only [orK]
      rw [bad_eq x hs]
      split
      · exact ⟨1, rfl, rfl⟩
      · exact ⟨0, rfl, rfl⟩
theorem f29_eq (x : List (BitVec 16)) (s : BitVec 16) (hx : x.length ≤ 65536) : f29 x s = some (acc x s) := by
  unfold f29
  rw [jn_eq, any_up (f29_L0 x s _) x 0#16 (fun y => sub y s) (some true) (some false) (fun k n hn => by
    rw [f29_L0.eq_2, ifd_pos (by omega), f41_eq, some_bind, chk_pos (by omega), chk_pos (by omega)]) (fun k => by
    rw [f29_L0.eq_2, ifd_neg (by omega)]) FUEL (fuel_lt (by omega))]
  unfold acc
  cases x.any fun y => sub y s <;> rfl
theorem f27_acc (x : List (BitVec 16)) (s : BitVec 16) (hx : x.length ≤ 65536) : f27 x s = some (acc x s) := f27_eq x s hx
theorem f30_eq (x g : List (BitVec 16)) (hx : x.length ≤ 65536) (hg : g.length ≤ 65536) : f30 x g = some (!(x.any fun a => !acc g a)) := by
  unfold f30 f53c f73c
  rw [jn_eq]
  rcases find_up (fun k n => f73c_L0 x (fun l6 => some ((-1 : Int), l6)) k (n, g)) x 0#16 (fun a => !acc g a) (fun m => some ((m : Int), g)) (some ((-1 : Int), g)) (fun k n hn => by
    show f73c_L0 x _ (k + 1) (n, g) = _
    rw [f73c_L0.eq_2, ifd_pos (by omega)]
    unfold f56
    rw [f27_acc _ _ hg, some_bind, some_bind, chk_pos (by omega)]
    dsimp only
    rw [chk_pos (by omega)]) (fun k => by
    show f73c_L0 x _ (k + 1) (x.length, g) = _
    rw [f73c_L0.eq_2, ifd_neg (by omega)]) x.length FUEL 0 (by omega) (fuel_lt (by omega)) with ⟨m, _, _, _, h1, h2⟩ | ⟨h1, h2⟩
  · rw [h1, some_bind, some_bind]
    rw [List.drop_zero] at h2
    rw [h2]; simp
  · rw [h1, some_bind, some_bind]
    rw [List.drop_zero] at h2
    rw [h2]; simp
theorem f31_eq (x g : List (BitVec 16)) (hx : x.length ≤ 65536) (hg : g.length ≤ 65536) : f31 x g = some (!(x.any fun a => !acc g a)) := by
  unfold f31
  rw [jn_eq, any_up (f31_L0 x g _) x 0#16 (fun a => !acc g a) (some false) (some true) (fun k n hn => by
    rw [f31_L0.eq_2, ifd_pos (by omega), f29_eq _ _ hg, some_bind, chk_pos (by omega), chk_pos (by omega)]) (fun k => by
    rw [f31_L0.eq_2, ifd_neg (by omega)]) FUEL (fuel_lt (by omega))]
  cases x.any fun a => !acc g a <;> rfl
theorem f32_eq (x : List (BitVec 16)) (hx : x.length ≤ 65536) : f32 x = some (x.foldl (fun w a => w ||| a) 0#16) := by
  unfold f32
  rw [jn_eq]
  refine (fold_up (fun k p => f32_L0 x _ k (p.2, p.1)) x 0#16 (fun _ _ => True) (fun w a => w ||| a) (fun w => some w) (fun k n s hn _ => ?_) (fun _ _ _ _ => trivial) (fun k s _ => ?_) x.length FUEL 0 0#16 (by omega) (fuel_lt (by omega)) trivial).trans rfl
  · show f32_L0 x _ (k + 1) (s, n) = _
    rw [f32_L0.eq_2, ifd_pos (by omega), chk_pos (by omega), chk_pos (by omega)]
  · show f32_L0 x _ (k + 1) (s, x.length) = _
    rw [f32_L0.eq_2, ifd_neg (by omega)]
theorem f33_eq (x : List (BitVec 16)) (hx : x.length ≤ 65536) : f33 x = some (x.foldl (fun w a => w ||| a) 0#16) := by
  unfold f33
  rw [jn_eq]
  refine (fold_up (fun k p => f33_L0 x _ k (p.2, p.1)) x 0#16 (fun _ _ => True) (fun w a => w ||| a) (fun w => some w) (fun k n s hn _ => ?_) (fun _ _ _ _ => trivial) (fun k s _ => ?_) x.length FUEL 0 0#16 (by omega) (fuel_lt (by omega)) trivial).trans rfl
  · show f33_L0 x _ (k + 1) (s, n) = _
    rw [f33_L0.eq_2, ifd_pos (by omega), chk_pos (by omega), chk_pos (by omega)]
  · show f33_L0 x _ (k + 1) (s, x.length) = _
    rw [f33_L0.eq_2, ifd_neg (by omega)]
end Go.Abs
