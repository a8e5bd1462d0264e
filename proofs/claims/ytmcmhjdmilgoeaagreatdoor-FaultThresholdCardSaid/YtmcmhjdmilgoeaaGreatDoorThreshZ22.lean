/- Part 22 of the proof: Pl, Pl19, Val19, Tol19, Thr19a, Thr19b, Thr19c, Aw19, F19Law5. -/
import Derived.Test.YtmcmhjdmilgoeaaGreatDoorThreshZ21
namespace Go.Abs
theorem chk_pos {p : Prop} [Decidable p] {α : Type} {x : Option α} (h : p) : chk p x = x := if_pos h
theorem ifd_pos {p : Prop} [Decidable p] {α : Type} {x y : α} (h : p) : (if decide p = true then x else y) = x := if_pos (decide_eq_true h)
theorem ifd_neg {p : Prop} [Decidable p] {α : Type} {x y : α} (h : ¬ p) : (if decide p = true then x else y) = y := if_neg (by simpa using h)
theorem jn_eq {α β : Type} (K : α → Option β) (x : (α → Option β) → Option β) : jn K x = x K := rfl
theorem optc_t {α β : Type} [Inhabited α] {x : Option α} {k : α → Option β} : optc true x k = x.bind k := rfl
theorem optc_f {α β : Type} [Inhabited α] {x : Option α} {k : α → Option β} : optc false x k = k default := rfl
theorem some_bind {α β : Type} (a : α) (f : α → Option β) : (some a).bind f = f a := rfl
theorem fuel_lt {n : Nat} (h : n ≤ 18446744073709551615) : n < FUEL := by unfold FUEL; omega
theorem getD_drop {α : Type} (x : List α) (n : Nat) (d : α) (h : n < x.length) : x.drop n = x.getD n d :: x.drop (n + 1) := by
  rw [List.drop_eq_getElem_cons h]
  simp [List.getD_eq_getElem?_getD, h]
/-- .. without ways out. -/
theorem fold_up {α S R : Type} (L : Nat → Nat × S → Option R) (x : List α) (d : α) (Inv : Nat → S → Prop) (g : S → α → S) (K : S → Option R)
    (h : ∀ k n s, n < x.length → Inv n s → L (k + 1) (n, s) = L k (n + 1, g s (x.getD n d)))
    (hI : ∀ n s, n < x.length → Inv n s → Inv (n + 1) (g s (x.getD n d)))
    (he : ∀ k s, Inv x.length s → L (k + 1) (x.length, s) = K s) : ∀ c k n s, n + c = x.length → c < k → Inv n s → L k (n, s) = K ((x.drop n).foldl g s)
  | 0, k, n, s, hn, hk, hi => by
    obtain ⟨k, rfl⟩ : ∃ q, k = q + 1 := ⟨k - 1, by omega⟩
    obtain rfl : n = x.length := by omega
    rw [he k s hi, List.drop_eq_nil_of_le (Nat.le_refl _)]; rfl
  | c + 1, k, n, s, hn, hk, hi => by
    obtain ⟨k, rfl⟩ : ∃ q, k = q + 1 := ⟨k - 1, by omega⟩
    have hlt : n < x.length := by omega
    rw [h k n s hlt hi, getD_drop x n d hlt]
    exact fold_up L x d Inv g K h hI he c k (n + 1) _ (by omega) (by omega) (hI n s hlt hi)
/-- A search: the first element of which p holds. -/
theorem find_up {α R : Type} (L : Nat → Nat → Option R) (x : List α) (d : α) (p : α → Bool) (r : Nat → Option R) (K : Option R)
    (h : ∀ k n, n < x.length → L (k + 1) n = if p (x.getD n d) = true then r n else L k (n + 1))
    (he : ∀ k, L (k + 1) x.length = K) : ∀ c k n, n + c = x.length → c < k →
      (∃ m, n ≤ m ∧ m < x.length ∧ p (x.getD m d) = true ∧ L k n = r m ∧ (x.drop n).any p = true) ∨ (L k n = K ∧ (x.drop n).any p = false)
  | 0, k, n, hn, hk => by
    obtain ⟨k, rfl⟩ : ∃ q, k = q + 1 := ⟨k - 1, by omega⟩
    obtain rfl : n = x.length := by omega
    exact .inr ⟨he k, by rw [List.drop_eq_nil_of_le (Nat.le_refl _)]; rfl⟩
  | c + 1, k, n, hn, hk => by
    obtain ⟨k, rfl⟩ : ∃ q, k = q + 1 := ⟨k - 1, by omega⟩
    have hlt : n < x.length := by omega
    rw [h k n hlt, getD_drop x n d hlt]
    by_cases hp : p (x.getD n d) = true
    · rw [if_pos hp]; exact .inl ⟨n, Nat.le_refl _, hlt, hp, rfl, by rw [List.any_cons, hp]; rfl⟩
    · rw [if_neg hp]
      have hp' : p (x.getD n d) = false := by simpa using hp
      rw [List.any_cons, hp', Bool.false_or]
      rcases find_up L x d p r K h he c k (n + 1) (by omega) (by omega) with ⟨m, h1, h2⟩ | h2
      · exact .inl ⟨m, by omega, h2⟩
      · exact .inr h2
/-- .. of which only is asked whether there is one. -/
theorem any_up {α R : Type} (L : Nat → Nat → Option R) (x : List α) (d : α) (p : α → Bool) (r : Option R) (K : Option R)
    (h : ∀ k n, n < x.length → L (k + 1) n = if p (x.getD n d) = true then r else L k (n + 1))
    (he : ∀ k, L (k + 1) x.length = K) (k : Nat) (hk : x.length < k) : L k 0 = if x.any p = true then r else K := by
  rcases find_up L x d p (fun _ => r) K h he x.length k 0 (by omega) hk with ⟨m, _, _, _, h1, h2⟩ | ⟨h1, h2⟩
  · rw [h1, if_pos (by simpa using h2)]
  · rw [h1, if_neg (by simpa using h2)]
end Go.Abs
namespace Go.Abs
/-- the servers of a set -/
def mems (x : BitVec 16) : List Nat := (List.range 16).filter fun i => decide (x.toNat / 2 ^ i % 2 = 1)
theorem bit_eq (x : BitVec 16) (n : Nat) : (((x >>> n) &&& (BitVec.ofInt 16 1)) == (BitVec.ofInt 16 1)) = decide (x.toNat / 2 ^ n % 2 = 1) := by
  have h := bit_toNat x n
  rw [Bool.eq_iff_iff, beq_iff_eq, decide_eq_true_eq, ← h]
  constructor
  · intro e; rw [e]; rfl
  · intro e; exact BitVec.eq_of_toNat_eq e
theorem f78_eq (x : BitVec 16) (n : Nat) (h : n < 16) : f78 x (n : Int) = some (decide (x.toNat / 2 ^ n % 2 = 1)) := by
  unfold f78
  rw [chk_pos (by intro; omega), Int.toNat_natCast, bit_eq]
  have h1 : (decide ((n : Int) ≥ 0)) = true := by simp
  have h2 : (decide ((n : Int) < 16)) = true := by simp; omega
  rw [h1, h2]
  rfl
theorem f53_L0_eq (x : BitVec 16) (K : List Int → Option (List Int)) : ∀ (c k n : Nat) (l : List Int), n + c = 16 → c < k → l.length ≤ n →
    f53_L0 x K k (n, l) = K (l ++ ((List.range' n c).filter fun i => decide (x.toNat / 2 ^ i % 2 = 1)).map fun i : Nat => (i : Int))
  | 0, k, n, l, hn, hk, hl => by
    obtain ⟨k, rfl⟩ : ∃ q, k = q + 1 := ⟨k - 1, by omega⟩
    rw [f53_L0.eq_2, if_neg (by simp; omega)]
    simp
  | c + 1, k, n, l, hn, hk, hl => by
    obtain ⟨k, rfl⟩ : ∃ q, k = q + 1 := ⟨k - 1, by omega⟩
    rw [f53_L0.eq_2, if_pos (by simp; omega), jn_eq, f78_eq x n (by omega), some_bind, List.range'_succ, List.filter_cons]
    by_cases hb : x.toNat / 2 ^ n % 2 = 1
    · rw [if_pos (decide_eq_true hb), chk_pos (by omega), if_pos (decide_eq_true hb)]
      dsimp only
      rw [chk_pos (by omega), f53_L0_eq x K c k (n + 1) _ (by omega) (by omega) (by simp; omega)]
      simp
    · rw [if_neg (by simpa using hb), if_neg (by simpa using hb)]
      dsimp only
      rw [chk_pos (by omega), f53_L0_eq x K c k (n + 1) _ (by omega) (by omega) (by omega)]
theorem f53_eq (x : BitVec 16) : f53 x = some ((mems x).map fun i : Nat => (i : Int)) := by
  unfold f53
  rw [jn_eq, f53_L0_eq x _ 16 FUEL 0 [] rfl (by unfold FUEL; omega) (Nat.zero_le _), List.nil_append, mems, List.range_eq_range']
theorem mems_bsum (x : Nat) : ∀ c n, ((List.range' n c).filter fun i => decide (x / 2 ^ i % 2 = 1)).length = bsum x n c
  | 0, n => rfl
  | c + 1, n => by
    rw [List.range'_succ, List.filter_cons, bsum]
    have hb : x / 2 ^ n % 2 < 2 := Nat.mod_lt _ (by decide)
    split <;> rename_i h
    · have h : x / 2 ^ n % 2 = 1 := by simpa using h
      rw [List.length_cons, mems_bsum x c (n + 1), h]; omega
    · have h : ¬ x / 2 ^ n % 2 = 1 := by simpa using h
      rw [mems_bsum x c (n + 1)]; omega
theorem mems_len (x : BitVec 16) : (mems x).length = sz x := by
  unfold mems
  rw [List.range_eq_range', mems_bsum]
  rfl
theorem f24_eq (x : BitVec 16) : f24 x = some (sz x : Int) := by
  unfold f24
  rw [f53_eq, some_bind, List.length_map, mems_len]
theorem f43_lt (a b : Flt) : ∃ c, f43 a.1 a.2 b.1 b.2 = some c ∧ (c < 0 ↔ keyF a < keyF b) :=
  ⟨_, f43_eq' a b, by have := cmpF_lt a b; simpa using this⟩
theorem f16_eq (b a : Flt) : f16 b.1 b.2 a.1 a.2 = some (cov b a) := by
  unfold f16 f46 cov sub ftyS
  by_cases h : (a.1 &&& ~~~b.1) = 0#16
  · simp [h, optc_t]
  · have e : (a.1 &&& ~~~b.1 == 0#16) = false := by simpa using h
    simp [e, optc_f]
end Go.Abs
namespace Go.Abs
theorem and_hi (n : Nat) (h : n < 65536) : (n &&& 61440 = 0) ↔ n < 4096 := by
  have e : (n &&& 61440) >>> 12 = n / 4096 := by
    rw [Nat.shiftRight_and_distrib, Nat.shiftRight_eq_div_pow]
    show (n / 4096) &&& 15 = n / 4096
    rw [show (15 : Nat) = 2 ^ 4 - 1 from rfl, Nat.and_two_pow_sub_one_eq_mod]
    omega
  constructor
  · intro h0
    rw [h0] at e
    simp at e
    omega
  · intro hn
    apply Nat.eq_of_testBit_eq
    intro i
    rw [Nat.testBit_and, Nat.zero_testBit]
    by_cases hi : i < 12
    · have : Nat.testBit 61440 i = false := by
        rw [show (61440 : Nat) = 2 ^ 12 * 15 from rfl, Nat.testBit_two_pow_mul]
        simp; omega
      rw [this, Bool.and_false]
    · have : n.testBit i = false := Nat.testBit_lt_two_pow (Nat.lt_of_lt_of_le hn (Nat.pow_le_pow_right (n := 2) (by decide) (by omega : 12 ≤ i)))
      rw [this, Bool.false_and]
theorem outside_eq (x : BitVec 16) : ((x &&& (BitVec.ofInt 16 61440)) == (BitVec.ofInt 16 0)) = decide (x.toNat < 4096) := by
  have h := and_hi x.toNat x.isLt
  rw [Bool.eq_iff_iff, beq_iff_eq, decide_eq_true_eq, ← h]
  constructor
  · intro e
    have := congrArg BitVec.toNat e
    simpa using this
  · intro e
    apply BitVec.eq_of_toNat_eq
    simpa using e
/-- the error of a fault -/
def errF (a : Flt) : Int := if (ftyS a).toNat < 4096 then (if a.1 &&& a.2 = 0#16 then 0 else 1) else 7
theorem f42_eq (a : Flt) : f42 a.1 a.2 = some (errF a) := by
  have e : ((ftyS a &&& ~~~(BitVec.ofInt 16 4095)) == (BitVec.ofInt 16 0)) = decide ((ftyS a).toNat < 4096) := outside_eq (ftyS a)
  unfold f42 f46 errF
  rw [some_bind]
  change (if (!((ftyS a &&& ~~~(BitVec.ofInt 16 4095)) == (BitVec.ofInt 16 0))) = true then _ else _) = _
  rw [e]
  by_cases h : (ftyS a).toNat < 4096
  · rw [decide_eq_true h, if_neg (by simp), if_pos h]
    by_cases h2 : a.1 &&& a.2 = 0#16
    · rw [if_pos h2, if_neg (by simp [h2])]
    · rw [if_neg h2, if_pos (by simpa using h2)]
  · rw [decide_eq_false h, if_pos (by simp), if_neg h]
/-- a fault that covers an earlier one, or is covered by it -/
def anyC (x : List Flt) (n : Nat) : Bool := (x.take n).any fun y => cov (x.getD n default) y || cov y (x.getD n default)
def scanF (x : List Flt) : Nat → Nat → Option Int
  | 0, _ => none
  | c + 1, n => if errF (x.getD n default) ≠ 0 then some (errF (x.getD n default)) else if anyC x n = true then some 5
    else if 0 < n ∧ ¬ keyF (x.getD (n - 1) default) < keyF (x.getD n default) then some 1 else scanF x c (n + 1)
def orE (e : Option Int) (K : Unit → Option Int) : Option Int := match e with
  | some e => some e
  | none => K ()
theorem f13_L1_eq (x : List Flt) (n : Nat) (K : Unit → Option Int) (hn : n < x.length) (hx : x.length ≤ 65536) : f13_L1 x n K FUEL 0 = if anyC x n = true then some 5 else K () := by
  have hl : (x.take n).length = n := by simp; omega
  refine any_up (f13_L1 x n K) (x.take n) default (fun y => cov (x.getD n default) y || cov y (x.getD n default)) (some 5) (K ()) (fun k m hm => ?_) (fun k => ?_) FUEL (by rw [hl]; exact fuel_lt (by omega))
  · rw [hl] at hm
    rw [f13_L1.eq_2, if_pos (by simp; omega), chk_pos (by omega), f16_eq, some_bind]
    cases cov (x.getD n default) ((x.take n).getD m default) with
    | true =>
      rw [show ((true == false)) = false from rfl, optc_f, Bool.true_or, Bool.true_or, if_pos rfl, if_pos rfl]
    | false =>
      rw [show ((false == false) = true) from rfl, optc_t, f16_eq, some_bind, chk_pos (by omega)]
  · rw [hl, f13_L1.eq_2, if_neg (by simp)]
theorem f13_L0_eq (x : List Flt) (K : Unit → Option Int) (hx : x.length ≤ 65536) : ∀ (c k n : Nat), n + c = x.length → c < k → f13_L0 x K k n = orE (scanF x c n) K
  | 0, k, n, hn, hk => by
    obtain ⟨k, rfl⟩ : ∃ q, k = q + 1 := ⟨k - 1, by omega⟩
    rw [f13_L0.eq_2, if_neg (by simp; omega)]
    rfl
  | c + 1, k, n, hn, hk => by
    obtain ⟨k, rfl⟩ : ∃ q, k = q + 1 := ⟨k - 1, by omega⟩
    have ih := f13_L0_eq x K hx c k (n + 1) (by omega) (by omega)
    rw [f13_L0.eq_2, if_pos (by simp; omega), chk_pos (by omega), f42_eq, some_bind]
    unfold scanF
    by_cases he : errF (x.getD n default) = 0
    · rw [if_neg (by rw [he]; decide), if_neg (fun h => h he), jn_eq, chk_pos (by omega), f13_L1_eq x n _ (by omega) hx]
      by_cases ha : anyC x n = true
      · rw [if_pos ha, if_pos ha]; rfl
      · rw [if_neg ha, if_neg ha]
        have hn1 : ((n : Int) - 1).toNat = n - 1 := by omega
        rw [hn1]
        by_cases h0 : 0 < n
        · have h0' : ((decide ((n : Int) > 0)) == true) = true := by simp; omega
          obtain ⟨r, h1, h2⟩ := f43_lt (x.getD (n - 1) default) (x.getD n default)
          rw [h0', optc_t, h1, some_bind, chk_pos (by intro; omega), chk_pos (by intro; omega), chk_pos (by omega), ih]
          by_cases hk2 : keyF (x.getD (n - 1) default) < keyF (x.getD n default)
          · rw [if_neg (by have := h2.2 hk2; simp; omega), if_neg (fun h => h.2 hk2)]
          · rw [if_pos (by have : ¬ r < 0 := fun h => hk2 (h2.1 h); simp; omega), if_pos ⟨h0, hk2⟩]; rfl
        · have h0' : ((decide ((n : Int) > 0)) == true) = false := by simp; omega
          rw [h0', optc_f, chk_pos (by intro h; cases h), chk_pos (by intro h; cases h), if_neg (by simp; omega), if_neg (by omega), chk_pos (by omega), ih]
    · rw [if_pos (by simpa using he), if_pos he]; rfl
/-- the error of a model -/
def validF (x : List Flt) : Int := if x.length = 0 then 9 else if x.length > 100 then 3 else (scanF x x.length 0).getD 0
theorem f13_eq (x : List Flt) : f13 x = some (validF x) := by
  unfold f13 validF
  by_cases h0 : x.length = 0
  · rw [if_pos (by simpa using h0), if_pos h0]
  · rw [if_neg (by simpa using h0), if_neg h0]
    by_cases h1 : x.length > 100
    · rw [if_pos (by simp; omega), if_pos h1]
    · rw [if_neg (by simp; omega), if_neg h1, jn_eq, f13_L0_eq x _ (by omega) x.length FUEL 0 (by omega) (fuel_lt (by omega))]
      cases scanF x x.length 0 <;> rfl
end Go.Abs
namespace Go.Abs
theorem f49_eq (b a : Flt) : f49 b.1 b.2 a.1 a.2 = some (cov b a, a.1, a.2) := by
  unfold f49
  rw [f16_eq]
  rfl
theorem f75a_eq (x : List Flt) (a : Flt) (hx : x.length ≤ 65536) : ∃ i : Int, f75a x a.1 a.2 = some (i, a.1, a.2) ∧ (decide (i ≥ 0)) = tol x a := by
  unfold f75a tol
  rw [jn_eq]
  have := find_up (fun k n => f75a_L0 x (fun q => match q with | (w8, w9) => some ((-1 : Int), w8, w9)) k (n, a.1, a.2)) x default (fun b => cov b a) (fun n => some ((n : Int), a.1, a.2)) (some (-1, a.1, a.2))
    (fun k n hn => by
      dsimp only
      rw [f75a_L0.eq_2, if_pos (by simp; omega), f49_eq, some_bind, chk_pos (by omega)]
      cases cov (x.getD n default) a with
      | true => rw [if_pos rfl, if_pos rfl]
      | false => rw [if_neg (by simp), if_neg (by simp), chk_pos (by omega)])
    (fun k => by
      dsimp only
      rw [f75a_L0.eq_2, if_neg (by simp)]) x.length FUEL 0 (by omega) (fuel_lt (by omega))
  rcases this with ⟨m, _, _, _, h1, h2⟩ | ⟨h1, h2⟩
  · refine ⟨m, h1, ?_⟩
    rw [List.drop_zero] at h2
    rw [h2]; simp
  · refine ⟨-1, h1, ?_⟩
    rw [List.drop_zero] at h2
    rw [h2]; simp
theorem f18_eq (x : List Flt) (a : Flt) (hx : x.length ≤ 65536) : f18 x a.1 a.2 = some (tol x a) := by
  obtain ⟨i, h1, h2⟩ := f75a_eq x a hx
  unfold f18 f48a
  rw [h1, some_bind, some_bind, h2]
end Go.Abs
namespace Go.Abs
def cntB (x : Nat) : Nat → Nat
  | 0 => 0
  | p + 1 => cntB x p + x / 2 ^ p % 2
theorem bsum_snoc (x : Nat) : ∀ c i, bsum x i (c + 1) = bsum x i c + x / 2 ^ (i + c) % 2
  | 0, i => by simp [bsum]
  | c + 1, i => by
    have ih := bsum_snoc x c (i + 1)
    show x / 2 ^ i % 2 + bsum x (i + 1) (c + 1) = x / 2 ^ i % 2 + bsum x (i + 1) c + _
    rw [ih, show i + 1 + c = i + (c + 1) from by omega]; omega
theorem cntB_bsum (x : Nat) : ∀ p, cntB x p = bsum x 0 p
  | 0 => rfl
  | p + 1 => by rw [bsum_snoc, cntB, cntB_bsum x p, Nat.zero_add]
theorem cntB_sz (x : BitVec 16) : cntB x.toNat 16 = sz x := cntB_bsum _ _
def subB (y x : Nat) : Nat → Bool
  | 0 => true
  | p + 1 => subB y x p && decide (y / 2 ^ p % 2 ≤ x / 2 ^ p % 2)
theorem subB_iff (y x : Nat) : ∀ p, subB y x p = true ↔ ∀ j, j < p → y / 2 ^ j % 2 ≤ x / 2 ^ j % 2
  | 0 => by simp [subB]
  | p + 1 => by
    rw [subB, Bool.and_eq_true, subB_iff y x p, decide_eq_true_eq]
    constructor
    · rintro ⟨h1, h2⟩ j hj
      rcases Nat.lt_or_ge j p with h | h
      · exact h1 j h
      · obtain rfl : j = p := by omega
        exact h2
    · intro h
      exact ⟨fun j hj => h j (by omega), h p (by omega)⟩
theorem bit_low {p j y : Nat} (h : j < p) : (2 ^ p + y) / 2 ^ j % 2 = y / 2 ^ j % 2 := by
  obtain ⟨d, rfl⟩ : ∃ d, p = j + 1 + d := ⟨p - j - 1, by omega⟩
  have e : 2 ^ (j + 1 + d) + y = y + 2 ^ j * (2 * 2 ^ d) := by
    rw [Nat.pow_add, Nat.pow_succ, Nat.mul_assoc, Nat.add_comm]
  rw [e, Nat.add_mul_div_left _ _ (Nat.pow_pos (by decide)), Nat.add_mul_mod_self_left]
theorem bit_self {p y : Nat} (h : y < 2 ^ p) : (2 ^ p + y) / 2 ^ p % 2 = 1 := by
  rw [Nat.add_div_left _ (Nat.pow_pos (by decide)), Nat.div_eq_of_lt h]
theorem bit_hi {p y : Nat} (h : y < 2 ^ p) : y / 2 ^ p % 2 = 0 := by
  rw [Nat.div_eq_of_lt h]
theorem bit_01 (x j : Nat) : x / 2 ^ j % 2 = 0 ∨ x / 2 ^ j % 2 = 1 := by omega
theorem cntB_le (x : Nat) : ∀ p, cntB x p ≤ p
  | 0 => Nat.le_refl _
  | p + 1 => by
    have := cntB_le x p
    have := bit_01 x p
    rw [cntB]; omega
theorem cntB_congr {x y : Nat} : ∀ p, (∀ j, j < p → x / 2 ^ j % 2 = y / 2 ^ j % 2) → cntB x p = cntB y p
  | 0, _ => rfl
  | p + 1, h => by
    rw [cntB, cntB, cntB_congr p fun j hj => h j (by omega), h p (by omega)]
theorem subB_congr {x y z w : Nat} (p : Nat) (h1 : ∀ j, j < p → x / 2 ^ j % 2 = y / 2 ^ j % 2) (h2 : ∀ j, j < p → z / 2 ^ j % 2 = w / 2 ^ j % 2) : subB x z p = subB y w p := by
  rw [Bool.eq_iff_iff, subB_iff, subB_iff]
  constructor
  · intro h j hj; rw [← h1 j hj, ← h2 j hj]; exact h j hj
  · intro h j hj; rw [h1 j hj, h2 j hj]; exact h j hj
/-- the subsets of k of the bits below p of x -/
def sbs (x : Nat) : Nat → Nat → List Nat
  | 0, k => if k = 0 then [0] else []
  | p + 1, k => sbs x p k ++ if x / 2 ^ p % 2 = 1 ∧ 0 < k then (sbs x p (k - 1)).map (2 ^ p + ·) else []
theorem sbs_filter (x : Nat) : ∀ p k, (List.range (2 ^ p)).filter (fun y => subB y x p && decide (cntB y p = k)) = sbs x p k
  | 0, k => by cases k <;> rfl
  | p + 1, k => by
    rw [show 2 ^ (p + 1) = 2 ^ p + 2 ^ p from by rw [Nat.pow_succ]; omega, List.range_add, List.filter_append, List.filter_map, sbs]
    congr 1
    · rw [← sbs_filter x p k]
      refine List.filter_congr fun y hy => ?_
      have hy := List.mem_range.1 hy
      show ((subB y x p && decide (y / 2 ^ p % 2 ≤ x / 2 ^ p % 2)) && decide (cntB y p + y / 2 ^ p % 2 = k)) = _
      rw [bit_hi hy]; simp
    · by_cases hb : x / 2 ^ p % 2 = 1 ∧ 0 < k
      · rw [if_pos hb, ← sbs_filter x p (k - 1)]
        congr 1
        refine List.filter_congr fun y hy => ?_
        have hy := List.mem_range.1 hy
        show ((subB (2 ^ p + y) x p && decide ((2 ^ p + y) / 2 ^ p % 2 ≤ x / 2 ^ p % 2)) && decide (cntB (2 ^ p + y) p + (2 ^ p + y) / 2 ^ p % 2 = k)) = _
        rw [bit_self hy, hb.1, subB_congr p (fun j hj => bit_low hj) (fun _ _ => rfl), cntB_congr p (fun j hj => bit_low hj)]
        have : (cntB y p + 1 = k) ↔ (cntB y p = k - 1) := by omega
        simp [this]
      · rw [if_neg hb]
        rw [List.filter_eq_nil_iff.2, List.map_nil]
        intro y hy
        have hy := List.mem_range.1 hy
        show ¬ ((subB (2 ^ p + y) x p && decide ((2 ^ p + y) / 2 ^ p % 2 ≤ x / 2 ^ p % 2)) && decide (cntB (2 ^ p + y) p + (2 ^ p + y) / 2 ^ p % 2 = k)) = true
        rw [bit_self hy]
        have := bit_01 x p
        simp only [Bool.and_eq_true, decide_eq_true_eq]
        omega
theorem mem_sbs {x p k y : Nat} : y ∈ sbs x p k ↔ y < 2 ^ p ∧ subB y x p = true ∧ cntB y p = k := by
  rw [← sbs_filter]
  simp [List.mem_filter]
theorem sbs_sorted (x p k : Nat) : (sbs x p k).Pairwise (· < ·) := by
  rw [← sbs_filter]
  exact List.Pairwise.filter _ List.pairwise_lt_range
theorem sbs_ne (x : Nat) : ∀ p k, k ≤ cntB x p → sbs x p k ≠ []
  | 0, k, h => by
    obtain rfl : k = 0 := by simpa [cntB] using h
    simp [sbs]
  | p + 1, k, h => by
    rw [cntB] at h
    rw [sbs]
    by_cases hk : k ≤ cntB x p
    · have := sbs_ne x p k hk
      simp [this]
    · have hb := bit_01 x p
      rw [if_pos (by omega)]
      have := sbs_ne x p (k - 1) (by omega)
      simp [this]
/-- the numbers of k of m bits -/
def cmb : Nat → Nat → List Nat
  | 0, k => if k = 0 then [0] else []
  | m + 1, k => cmb m k ++ if 0 < k then (cmb m (k - 1)).map (2 ^ m + ·) else []
theorem cmb_lt : ∀ m k i, i ∈ cmb m k → i < 2 ^ m
  | 0, k, i, h => by
    unfold cmb at h
    split at h
    · simp at h; omega
    · cases h
  | m + 1, k, i, h => by
    have e : 2 ^ (m + 1) = 2 ^ m + 2 ^ m := by rw [Nat.pow_succ]; omega
    rw [cmb] at h
    rcases List.mem_append.1 h with h | h
    · have := cmb_lt m k i h; omega
    · split at h
      · obtain ⟨j, hj, rfl⟩ := List.mem_map.1 h
        have := cmb_lt m _ j hj; omega
      · cases h
theorem cmb_nil : ∀ m k, m < k → cmb m k = []
  | 0, k, h => by unfold cmb; rw [if_neg (by omega)]
  | m + 1, k, h => by
    rw [cmb, cmb_nil m k (by omega), cmb_nil m (k - 1) (by omega)]
    split <;> rfl
def memP (x p : Nat) : List Nat := (List.range p).filter fun i => decide (x / 2 ^ i % 2 = 1)
theorem memP_succ (x p : Nat) : memP x (p + 1) = memP x p ++ if x / 2 ^ p % 2 = 1 then [p] else [] := by
  unfold memP
  rw [List.range_succ, List.filter_append]
  congr 1
  split <;> rename_i h <;> simp [h]
theorem memP_len (x : Nat) : ∀ p, (memP x p).length = cntB x p
  | 0 => rfl
  | p + 1 => by
    rw [memP_succ, List.length_append, memP_len x p, cntB]
    have := bit_01 x p
    split
    · simp; omega
    · simp; omega
def plc : List Nat → Nat → Nat
  | [], _ => 0
  | p :: L, i => (if i % 2 = 1 then 2 ^ p else 0) + plc L (i / 2)
theorem plc_snoc (p : Nat) : ∀ (L : List Nat) (i : Nat), plc (L ++ [p]) i = plc L i + if i / 2 ^ L.length % 2 = 1 then 2 ^ p else 0
  | [], i => by simp [plc]
  | q :: L, i => by
    rw [List.cons_append, plc, plc_snoc p L (i / 2), plc, List.length_cons, Nat.div_div_eq_div_mul, Nat.pow_succ, Nat.mul_comm 2]
    omega
theorem plc_add : ∀ (L : List Nat) (i : Nat), plc L (2 ^ L.length + i) = plc L i
  | [], i => rfl
  | q :: L, i => by
    have e : 2 ^ (q :: L).length = 2 * 2 ^ L.length := by rw [List.length_cons, Nat.pow_succ, Nat.mul_comm]
    rw [plc, plc, e, show (2 * 2 ^ L.length + i) % 2 = i % 2 from by omega, show (2 * 2 ^ L.length + i) / 2 = 2 ^ L.length + i / 2 from by omega, plc_add L (i / 2)]
theorem plc_cmb (x : Nat) : ∀ p k, (cmb (cntB x p) k).map (plc (memP x p)) = sbs x p k
  | 0, k => by
    show (cmb 0 k).map (plc []) = sbs x 0 k
    unfold cmb sbs
    split <;> rfl
  | p + 1, k => by
    rw [memP_succ, cntB, sbs]
    rcases bit_01 x p with hb | hb
    · rw [hb, if_neg (by omega), if_neg (by omega), List.append_nil, List.append_nil, Nat.add_zero]
      exact plc_cmb x p k
    · rw [hb, if_pos rfl, cmb, List.map_append]
      congr 1
      · rw [← plc_cmb x p k]
        refine List.map_congr_left fun i hi => ?_
        have := cmb_lt _ _ i hi
        rw [plc_snoc, memP_len, bit_hi this]
        rfl
      · by_cases hk : 0 < k
        · rw [if_pos hk, if_pos ⟨rfl, hk⟩, ← plc_cmb x p (k - 1), List.map_map, List.map_map]
          refine List.map_congr_left fun i hi => ?_
          have := cmb_lt _ _ i hi
          show plc (memP x p ++ [p]) (2 ^ cntB x p + i) = 2 ^ p + plc (memP x p) i
          have h1 := plc_add (memP x p) i
          rw [memP_len] at h1
          rw [plc_snoc, memP_len, bit_self this, if_pos rfl, h1, Nat.add_comm]
        · rw [if_neg hk, if_neg (fun h => hk h.2)]; rfl
theorem cntB_mono {y x : Nat} : ∀ p, subB y x p = true → cntB y p ≤ cntB x p
  | 0, _ => Nat.le_refl _
  | p + 1, h => by
    rw [subB, Bool.and_eq_true, decide_eq_true_eq] at h
    have := cntB_mono p h.1
    rw [cntB, cntB]; omega
/-- a set between two others, of a given size -/
theorem between (s t : Nat) : ∀ p k, subB s t p = true → cntB s p ≤ k → k ≤ cntB t p → ∃ u, u < 2 ^ p ∧ subB s u p = true ∧ subB u t p = true ∧ cntB u p = k
  | 0, k, _, _, h2 => ⟨0, by simp, rfl, rfl, by unfold cntB at *; omega⟩
  | p + 1, k, h, h1, h2 => by
    rw [subB, Bool.and_eq_true, decide_eq_true_eq] at h
    rw [cntB] at h1 h2
    have hm := cntB_mono p h.1
    have e : 2 ^ (p + 1) = 2 ^ p + 2 ^ p := by rw [Nat.pow_succ]; omega
    have a1 := bit_01 s p
    have a2 := bit_01 t p
    have up : ∀ v, v < 2 ^ p → t / 2 ^ p % 2 = 1 → subB s v p = true → subB v t p = true → cntB v p = k - 1 → 0 < k → ∃ u, u < 2 ^ (p + 1) ∧ subB s u (p + 1) = true ∧ subB u t (p + 1) = true ∧ cntB u (p + 1) = k := by
      intro v hv ht h3 h4 h5 h6
      refine ⟨2 ^ p + v, by omega, ?_, ?_, ?_⟩
      · rw [subB, bit_self hv, subB_congr p (fun _ _ => rfl) (fun j hj => bit_low hj), h3]
        simp; omega
      · rw [subB, bit_self hv, subB_congr p (fun j hj => bit_low hj) (fun _ _ => rfl), h4, ht]
        simp
      · rw [cntB, bit_self hv, cntB_congr p (fun j hj => bit_low hj), h5]; omega
    by_cases hc : s / 2 ^ p % 2 = 0 ∧ k ≤ cntB t p
    · obtain ⟨v, hv, h3, h4, h5⟩ := between s t p k h.1 (by omega) hc.2
      refine ⟨v, by omega, ?_, ?_, ?_⟩
      · rw [subB, bit_hi hv, h3, hc.1]; rfl
      · rw [subB, bit_hi hv, h4]; simp
      · rw [cntB, bit_hi hv, h5, Nat.add_zero]
    · obtain ⟨v, hv, h3, h4, h5⟩ := between s t p (k - 1) h.1 (by omega) (by omega)
      exact up v hv (by omega) h3 h4 h5 (by omega)
/-! ### sets of servers -/
theorem bitB (x : BitVec 16) (j : Nat) : x.toNat / 2 ^ j % 2 = if x.getLsbD j = true then 1 else 0 := by
  have e : x.getLsbD j = x.toNat.testBit j := rfl
  rw [e, Nat.testBit_eq_decide_div_mod_eq]
  have := bit_01 x.toNat j
  by_cases h : x.toNat / 2 ^ j % 2 = 1
  · simp [h]
  · simp [h]; omega
theorem sub_subB (y x : BitVec 16) : sub y x = subB y.toNat x.toNat 16 := by
  rw [Bool.eq_iff_iff, subB_iff]
  constructor
  · intro h j hj; exact sub_bits h j hj
  · intro h
    refine sub_iff.2 fun i hi hy => ?_
    have := h i hi
    rw [bitB, bitB, if_pos hy] at this
    cases hx : x.getLsbD i with
    | true => rfl
    | false => rw [hx] at this; simp at this
def chooseB (s : BitVec 16) (k : Nat) : List (BitVec 16) := (sbs s.toNat 16 k).map (BitVec.ofNat 16)
theorem ofNat_toNat16 {u : Nat} (h : u < 2 ^ 16) : (BitVec.ofNat 16 u).toNat = u := by
  rw [BitVec.toNat_ofNat, Nat.mod_eq_of_lt h]
theorem mem_chooseB {s : BitVec 16} {k : Nat} {u : BitVec 16} : u ∈ chooseB s k ↔ sub u s = true ∧ sz u = k := by
  unfold chooseB
  rw [List.mem_map, sub_subB, ← cntB_sz]
  constructor
  · rintro ⟨v, hv, rfl⟩
    obtain ⟨h1, h2, h3⟩ := mem_sbs.1 hv
    rw [ofNat_toNat16 h1]
    exact ⟨h2, h3⟩
  · rintro ⟨h1, h2⟩
    exact ⟨u.toNat, mem_sbs.2 ⟨u.isLt, h1, h2⟩, by simp⟩
theorem chooseB_sorted (s : BitVec 16) (k : Nat) : (chooseB s k).Pairwise fun a b => a.toNat < b.toNat := by
  unfold chooseB
  rw [List.pairwise_map]
  refine List.Pairwise.imp_of_mem ?_ (sbs_sorted s.toNat 16 k)
  intro a b ha hb h
  rw [ofNat_toNat16 (mem_sbs.1 ha).1, ofNat_toNat16 (mem_sbs.1 hb).1]
  exact h
theorem chooseB_ne {s : BitVec 16} {k : Nat} (h : k ≤ sz s) : chooseB s k ≠ [] := by
  unfold chooseB
  have := sbs_ne s.toNat 16 k (by rw [cntB_sz]; exact h)
  simp [this]
theorem between16 {s t : BitVec 16} {k : Nat} (h : sub s t = true) (h1 : sz s ≤ k) (h2 : k ≤ sz t) : ∃ u : BitVec 16, sub s u = true ∧ sub u t = true ∧ sz u = k := by
  rw [sub_subB] at h
  rw [← cntB_sz] at h1 h2
  obtain ⟨u, hu, h3, h4, h5⟩ := between s.toNat t.toNat 16 k h h1 h2
  refine ⟨BitVec.ofNat 16 u, ?_, ?_, ?_⟩
  · rw [sub_subB, ofNat_toNat16 hu]; exact h3
  · rw [sub_subB, ofNat_toNat16 hu]; exact h4
  · rw [← cntB_sz, ofNat_toNat16 hu]; exact h5
theorem cntB_sum {x y z : Nat} : ∀ p, (∀ j, j < p → z / 2 ^ j % 2 = x / 2 ^ j % 2 + y / 2 ^ j % 2) → cntB z p = cntB x p + cntB y p
  | 0, _ => rfl
  | p + 1, h => by
    have := cntB_sum p fun j hj => h j (by omega)
    have := h p (by omega)
    rw [cntB, cntB, cntB]; omega
theorem sz_or {a b : BitVec 16} (h : a &&& b = 0#16) : sz (a ||| b) = sz a + sz b := by
  rw [← cntB_sz, ← cntB_sz, ← cntB_sz]
  refine cntB_sum 16 fun j hj => ?_
  have h1 := congrArg (fun z => z.getLsbD j) h
  rw [bitB, bitB, bitB, BitVec.getLsbD_or]
  simp only [BitVec.getLsbD_and] at h1
  cases ha : a.getLsbD j <;> cases hb : b.getLsbD j <;> simp_all
theorem diff_disj (s u : BitVec 16) : u &&& (s &&& ~~~u) = 0#16 := by
  apply BitVec.eq_of_getLsbD_eq
  intro i hi
  simp [hi]
  intro h1 _
  exact h1
theorem or_diff {s u : BitVec 16} (h : sub u s = true) : u ||| (s &&& ~~~u) = s := by
  apply BitVec.eq_of_getLsbD_eq
  intro i hi
  have := sub_iff.1 h i hi
  simp only [BitVec.getLsbD_eq_getElem hi] at this ⊢
  simp
  cases hu : u[i] <;> cases hs : s[i] <;> simp_all
theorem sz_diff {s u : BitVec 16} (h : sub u s = true) : sz u + sz (s &&& ~~~u) = sz s := by
  rw [← sz_or (diff_disj s u), or_diff h]
end Go.Abs
namespace Go.Abs
/-! ### members -/
def lowN : Nat → Nat → Nat
  | 0, _ => 0
  | c + 1, w => if w % 2 = 1 then 0 else lowN c (w / 2) + 1
def memOK (w : Nat) : Bool :=
  decide (f128 (BitVec.ofNat 16 w) = some ((lowN 12 w : Nat) : Int)) && decide ((BitVec.ofNat 16 w &&& (BitVec.ofNat 16 w - BitVec.ofInt 16 1)).toNat = w - 2 ^ lowN 12 w) && decide (memP w 16 = lowN 12 w :: memP (w - 2 ^ lowN 12 w) 16)
theorem memOK_all : ((List.range 4096).all fun w => w == 0 || memOK w) = true := by kernel_rfl
theorem memOK_of {w : Nat} (h : w < 4096) (h0 : w ≠ 0) : f128 (BitVec.ofNat 16 w) = some ((lowN 12 w : Nat) : Int) ∧ (BitVec.ofNat 16 w &&& (BitVec.ofNat 16 w - BitVec.ofInt 16 1)).toNat = w - 2 ^ lowN 12 w ∧ memP w 16 = lowN 12 w :: memP (w - 2 ^ lowN 12 w) 16 := by
  have := List.all_eq_true.1 memOK_all w (List.mem_range.2 h)
  simp only [Bool.or_eq_true, beq_iff_eq, h0, false_or] at this
  unfold memOK at this
  simp only [Bool.and_eq_true, decide_eq_true_eq] at this
  exact ⟨this.1.1, this.1.2, this.2⟩
theorem f100_L0_eq (K : List Int → Option (List Int)) : ∀ (n : Nat) (w : BitVec 16) (k : Nat) (l : List Int), w.toNat ≤ n → w.toNat < 4096 → n + 1 < k → l.length + n ≤ 100000 →
    f100_L0 K k (w, l) = K (l ++ (memP w.toNat 16).map fun i : Nat => (i : Int)) := by
  intro n
  induction n with
  | zero =>
    intro w k l hw hw2 hk hl
    obtain ⟨k, rfl⟩ : ∃ q, k = q + 1 := ⟨k - 1, by omega⟩
    have e : w = 0#16 := BitVec.eq_of_toNat_eq (by simp; omega)
    subst e
    rw [f100_L0.eq_2, if_neg (by decide)]
    have : memP (0#16).toNat 16 = [] := by decide
    rw [this]; simp
  | succ n ih =>
    intro w k l hw hw2 hk hl
    obtain ⟨k, rfl⟩ : ∃ q, k = q + 1 := ⟨k - 1, by omega⟩
    by_cases h0 : w.toNat = 0
    · have e : w = 0#16 := BitVec.eq_of_toNat_eq (by simp; omega)
      subst e
      rw [f100_L0.eq_2, if_neg (by decide)]
      have : memP (0#16).toNat 16 = [] := by decide
      rw [this]; simp
    · obtain ⟨h1, h2, h3⟩ := memOK_of hw2 h0
      have e : BitVec.ofNat 16 w.toNat = w := by simp
      rw [e] at h1 h2
      have hp : 0 < 2 ^ lowN 12 w.toNat := Nat.pow_pos (by decide)
      have hne : (!(w == (BitVec.ofInt 16 0))) = true := by
        have : w ≠ 0#16 := fun e => h0 (by rw [e]; rfl)
        simpa using this
      rw [f100_L0.eq_2, if_pos hne, h1, some_bind, chk_pos (by omega), ih _ k _ (by rw [h2]; omega) (by rw [h2]; omega) (by omega) (by simp; omega), h2, h3]
      simp
theorem f100_eq (w : BitVec 16) (h : w.toNat < 4096) : f100 w = some ((memP w.toNat 16).map fun i : Nat => (i : Int)) := by
  unfold f100
  rw [jn_eq, f100_L0_eq _ 4096 w FUEL [] (by omega) h (by unfold FUEL; omega) (by simp)]
  simp
/-! ### the numbers with as many bits -/
def lowB (i : Int) : Int := bitsI .and .u32 i (IntKind.wrap .u32 (0 - i))
def gosN (i : Int) : Int := bitsI .or .u32 (i + lowB i) ((bitsI .xor .u32 i (i + lowB i)) / lowB i / 2 ^ 2)
def gosC (i : Int) : Bool := decide (0 ≤ i + lowB i ∧ i + lowB i ≤ 4294967295) && decide (0 ≤ bitsI .xor .u32 i (i + lowB i) ∧ 1 ≤ lowB i ∧ 0 ≤ bitsI .xor .u32 i (i + lowB i) / lowB i ∧ bitsI .xor .u32 i (i + lowB i) / lowB i ≤ 4294967295)
def chainG (m : Nat) (a : Nat) : List Nat → Bool
  | [] => decide (a < 2 ^ m) && (a == 0 || (gosC (a : Int) && decide ((1 : Int) * 2 ^ m ≤ gosN (a : Int))))
  | b :: t => decide (a < 2 ^ m) && !(a == 0) && gosC (a : Int) && decide (gosN (a : Int) = (b : Int)) && chainG m b t
def gOK (m k : Nat) : Bool := match cmb m k with
  | [] => false
  | a :: t => decide (a + 1 = 2 ^ k) && chainG m a t && decide (t.length ≤ 4096)
def gAll (m : Nat) : Bool := (List.range (m + 1)).all fun k => gOK m k
theorem gAll_eq : ∀ m : Nat, m ≤ 12 → gAll m = true
  | 0, _ => by kernel_rfl
  | 1, _ => by kernel_rfl
  | 2, _ => by kernel_rfl
  | 3, _ => by kernel_rfl
  | 4, _ => by kernel_rfl
  | 5, _ => by kernel_rfl
  | 6, _ => by kernel_rfl
  | 7, _ => by kernel_rfl
  | 8, _ => by kernel_rfl
  | 9, _ => by kernel_rfl
  | 10, _ => by kernel_rfl
  | 11, _ => by kernel_rfl
  | 12, _ => by kernel_rfl
  | n + 13, h => absurd h (by omega)
theorem gOK_of {m k : Nat} (hm : m ≤ 12) (hk : k ≤ m) : ∃ a t, cmb m k = a :: t ∧ a + 1 = 2 ^ k ∧ chainG m a t = true ∧ t.length ≤ 4096 := by
  have := List.all_eq_true.1 (gAll_eq m hm) k (List.mem_range.2 (by omega))
  unfold gOK at this
  split at this
  · cases this
  · rename_i a t e
    simp only [Bool.and_eq_true, decide_eq_true_eq] at this
    exact ⟨a, t, e, this.1.1, this.1.2, this.2⟩
theorem and1_all : ((List.range 4096).all fun x => (bitsI .and .u32 (x : Int) 1 == 1) == decide (x % 2 = 1)) = true := by kernel_rfl
theorem and1 {x : Nat} (h : x < 4096) : (bitsI .and .u32 (x : Int) 1 == 1) = decide (x % 2 = 1) := by
  have := List.all_eq_true.1 and1_all x (List.mem_range.2 h)
  simpa using this
/-- the set of the bits of i -/
def wP : List Nat → Nat → BitVec 16 → BitVec 16
  | [], _, w => w
  | p :: L, i, w => wP L (i / 2) (if i % 2 = 1 then w ||| ((BitVec.ofInt 16 1) <<< p) else w)
theorem wP_plc : ∀ (L : List Nat) (q i : Nat) (w : BitVec 16), (∀ p, p ∈ L → q ≤ p ∧ p < 16) → L.Pairwise (· < ·) → w.toNat < 2 ^ q → (wP L i w).toNat = w.toNat + plc L i
  | [], _, _, _, _, _, _ => rfl
  | p :: L, q, i, w, h1, h2, h3 => by
    obtain ⟨hq, hp⟩ := h1 p (List.mem_cons_self ..)
    rw [List.pairwise_cons] at h2
    have hqp : 2 ^ q ≤ 2 ^ p := Nat.pow_le_pow_right (by decide) hq
    have e : 2 ^ (p + 1) = 2 ^ p + 2 ^ p := by rw [Nat.pow_succ]; omega
    rw [wP, plc]
    have hL : ∀ r, r ∈ L → p + 1 ≤ r ∧ r < 16 := fun r hr => ⟨h2.1 r hr, (h1 r (List.mem_cons_of_mem _ hr)).2⟩
    by_cases hi : i % 2 = 1
    · rw [if_pos hi, if_pos hi]
      have ew : (w ||| ((BitVec.ofInt 16 1) <<< p)).toNat = w.toNat + 2 ^ p := by
        have e1 : ((BitVec.ofInt 16 1) <<< p).toNat = 2 ^ p := by
          rw [BitVec.toNat_shiftLeft]
          show 1 <<< p % 2 ^ 16 = 2 ^ p
          rw [Nat.one_shiftLeft, Nat.mod_eq_of_lt (Nat.pow_lt_pow_right (by decide) hp)]
        have e2 := Nat.two_pow_add_eq_or_of_lt (i := p) (b := w.toNat) (by omega) 1
        rw [BitVec.toNat_or, e1, Nat.or_comm]
        simp only [Nat.mul_one] at e2
        omega
      rw [wP_plc L (p + 1) (i / 2) _ hL h2.2 (by rw [ew]; omega), ew]
      omega
    · rw [if_neg hi, if_neg hi, wP_plc L (p + 1) (i / 2) w hL h2.2 (by omega)]
      omega
theorem memP_lt {x p i : Nat} (h : i ∈ memP x p) : i < p := List.mem_range.1 (List.mem_filter.1 h).1
theorem memP_sorted (x p : Nat) : (memP x p).Pairwise (· < ·) := List.Pairwise.filter _ List.pairwise_lt_range
theorem wP_choose (s : BitVec 16) (k : Nat) : (cmb (sz s) k).map (fun j => wP (memP s.toNat 16) j 0#16) = chooseB s k := by
  unfold chooseB
  rw [← plc_cmb, cntB_sz, List.map_map]
  refine List.map_congr_left fun j _ => ?_
  have h := wP_plc (memP s.toNat 16) 0 j 0#16 (fun p hp => ⟨Nat.zero_le _, memP_lt hp⟩) (memP_sorted _ _) (by decide)
  apply BitVec.eq_of_toNat_eq
  have h2 : (0#16).toNat = 0 := rfl
  rw [h2, Nat.zero_add] at h
  show _ = (BitVec.ofNat 16 (plc (memP s.toNat 16) j)).toNat
  rw [← h, ofNat_toNat16 (BitVec.isLt _)]
/-- the program's fault lists stop behind the 101st -/
abbrev R77 := Option (Bool × Nat × Int × BitVec 16 × BitVec 16 × Int × (List (BitVec 16 × BitVec 16)))
theorem mp_len (L : List Nat) : (L.map fun i : Nat => (i : Int)).length = L.length := List.length_map _
theorem mp_get (L : List Nat) (n : Nat) (h : n < L.length) : (L.map fun i : Nat => (i : Int)).getD n 0 = ((L.getD n 0 : Nat) : Int) := by
  simp [List.getD_eq_getElem?_getD, h]
theorem divc (i n : Nat) : ((i : Int) / 2 ^ n) = ((i / 2 ^ n : Nat) : Int) := by
  rw [Int.natCast_ediv, Int.natCast_pow]; rfl
theorem f77_L1_eq (L : List Nat) (i : Nat) (K : BitVec 16 → R77) (hL : L.length ≤ 12) (hi : i < 4096) : ∀ c k n w, n + c = L.length → c < k → f77_L1 (L.map fun i : Nat => (i : Int)) (i : Int) K k (w, n) = K (wP (L.drop n) (i / 2 ^ n) w)
  | 0, k, n, w, hc, hk => by
    obtain ⟨k, rfl⟩ : ∃ q, k = q + 1 := ⟨k - 1, by omega⟩
    rw [f77_L1.eq_2, ifd_neg (by rw [mp_len]; omega), List.drop_eq_nil_of_le (by omega)]
    rfl
  | c + 1, k, n, w, hc, hk => by
    obtain ⟨k, rfl⟩ : ∃ q, k = q + 1 := ⟨k - 1, by omega⟩
    have hu : IntKind.bits .u32 = 32 := rfl
    have hlt : i / 2 ^ n < 4096 := Nat.lt_of_le_of_lt (Nat.div_le_self _ _) hi
    rw [f77_L1.eq_2, ifd_pos (by rw [mp_len]; omega), jn_eq, chk_pos (by rw [mp_len]; omega), chk_pos (by rw [mp_len]; omega), chk_pos (by rw [hu]; omega), mp_get L n (by omega), divc, and1 hlt, getD_drop L n 0 (by omega), wP, Nat.div_div_eq_div_mul, ← Nat.pow_succ, Int.toNat_natCast]
    by_cases hb : i / 2 ^ n % 2 = 1
    · rw [ifd_pos hb, if_pos hb, chk_pos (by omega)]
      dsimp only
      rw [chk_pos (by omega), f77_L1_eq L i K hL hi c k (n + 1) _ (by omega) (by omega)]
    · rw [ifd_neg hb, if_neg hb]
      dsimp only
      rw [chk_pos (by omega), f77_L1_eq L i K hL hi c k (n + 1) _ (by omega) (by omega)]
theorem pow12 {m : Nat} (hm : m ≤ 12) : (1 : Int) * 2 ^ m ≤ 4096 ∧ 0 ≤ (1 : Int) * 2 ^ m ∧ (1 : Int) * 2 ^ m = ((2 ^ m : Nat) : Int) := by
  have h1 : 2 ^ m ≤ 2 ^ 12 := Nat.pow_le_pow_right (n := 2) (by decide) hm
  have e : (1 : Int) * 2 ^ m = ((2 ^ m : Nat) : Int) := by rw [Int.one_mul, Int.natCast_pow]; rfl
  rw [e]
  exact ⟨Int.ofNat_le.2 h1, Int.natCast_nonneg _, rfl⟩
theorem y2_eq (e : Int) (byz s : BitVec 16) (kk : Int) (l : List Flt) (x : BitVec 16) (hl : l.length ≤ 100) : f20_Y70002 (e, byz, s, kk, l) x = if l.length + 1 ≤ 100 then some (0, (e, byz, s, kk, l ++ [(byz, x)])) else some (2, (3, byz, s, kk, l ++ [(byz, x)])) := by
  show chk _ _ = _
  rw [chk_pos (by omega)]
  by_cases h : l.length + 1 ≤ 100
  · rw [if_pos h, ifd_neg (by simp; omega)]
  · rw [if_neg h, ifd_pos (by simp; omega)]
theorem take_app (l X : List Flt) (h : 101 ≤ l.length) : (l ++ X).take 101 = l.take 101 := List.take_append_of_le_length h
theorem take_all (l : List Flt) (h : l.length ≤ 101) : l.take 101 = l := List.take_of_length_le h
theorem f77_L0_eq (L : List Nat) (hL : L.length ≤ 12) (kk e : Int) (byz s : BitVec 16) (K1 : (Int × BitVec 16 × BitVec 16 × Int × (List (BitVec 16 × BitVec 16)) × Nat) → R77) :
    ∀ (t : List Nat) (a k : Nat) (l : List Flt), chainG L.length a t = true → t.length + 1 < k → l.length ≤ 100 →
      f77_L0 f20_Y70002 (L.map fun i : Nat => (i : Int)) K1 k ((a : Int), kk, s, byz, e, l, 0) =
        if l.length + (t.length + 1) ≤ 100 then K1 (kk, s, byz, e, l ++ (a :: t).map fun j => (byz, wP L j 0#16), 0)
        else some (false, 2, 3, byz, s, kk, (l ++ (a :: t).map fun j => (byz, wP L j 0#16)).take 101)
  | [], a, k, l, hc, hk, hl => by
    obtain ⟨k, rfl⟩ : ∃ q, k = q + 1 := ⟨k - 1, by simp at hk; omega⟩
    obtain ⟨k, rfl⟩ : ∃ q, k = q + 1 := ⟨k - 1, by simp at hk; omega⟩
    have hu : IntKind.bits .u32 = 32 := rfl
    obtain ⟨p1, p2, p3⟩ := pow12 hL
    unfold chainG at hc
    simp only [Bool.and_eq_true, Bool.or_eq_true, decide_eq_true_eq, beq_iff_eq] at hc
    have ha : a < 4096 := by have := Nat.pow_le_pow_right (n := 2) (by decide) hL; omega
    rw [f77_L0.eq_2, mp_len, chk_pos (by rw [hu]; omega), ifd_pos (by omega), jn_eq, f77_L1_eq L a _ hL ha L.length FUEL 0 _ (by omega) (fuel_lt (by omega)), jn_eq, chk_pos rfl, show (BitVec.ofInt 16 0) = 0#16 from rfl, List.drop_zero, Nat.pow_zero, Nat.div_one, y2_eq _ _ _ _ _ _ hl]
    simp only [List.length_nil, Nat.zero_add, List.map_cons, List.map_nil]
    by_cases h : l.length + 1 ≤ 100
    · rw [if_pos h, if_pos h, some_bind, if_pos rfl, if_neg (by simp)]
      dsimp only
      rcases hc.2 with h0 | ⟨hg, h0⟩
      · rw [if_pos (by simp; omega)]
      · by_cases hz : a = 0
        · rw [if_pos (by simp; omega)]
        · rw [if_neg (by simp; omega)]
          unfold gosC lowB at hg
          simp only [Bool.and_eq_true, decide_eq_true_eq] at hg
          rw [chk_pos hg.1, chk_pos hg.2, chk_pos (by rw [hu]; omega)]
          unfold gosN lowB at h0
          rw [f77_L0.eq_2, mp_len, chk_pos (by rw [hu]; omega), ifd_neg (by omega)]
    · rw [if_neg h, if_neg h, some_bind, if_neg (by simp), if_pos (by simp), take_all _ (by simp; omega)]
  | b :: t, a, k, l, hc, hk, hl => by
    obtain ⟨k, rfl⟩ : ∃ q, k = q + 1 := ⟨k - 1, by omega⟩
    have hu : IntKind.bits .u32 = 32 := rfl
    obtain ⟨p1, p2, p3⟩ := pow12 hL
    unfold chainG at hc
    simp only [Bool.and_eq_true, Bool.not_eq_true', decide_eq_true_eq, beq_eq_false_iff_ne] at hc
    obtain ⟨⟨⟨⟨hc1, hc2⟩, hg⟩, hn⟩, hc'⟩ := hc
    have ha : a < 4096 := by have := Nat.pow_le_pow_right (n := 2) (by decide) hL; omega
    rw [f77_L0.eq_2, mp_len, chk_pos (by rw [hu]; omega), ifd_pos (by omega), jn_eq, f77_L1_eq L a _ hL ha L.length FUEL 0 _ (by omega) (fuel_lt (by omega)), jn_eq, chk_pos rfl, show (BitVec.ofInt 16 0) = 0#16 from rfl, List.drop_zero, Nat.pow_zero, Nat.div_one, y2_eq _ _ _ _ _ _ hl]
    rw [List.map_cons, List.length_cons]
    by_cases h : l.length + 1 ≤ 100
    · rw [if_pos h, some_bind, if_pos rfl, if_neg (by simp)]
      dsimp only
      rw [if_neg (by simp; omega)]
      unfold gosC lowB at hg
      simp only [Bool.and_eq_true, decide_eq_true_eq] at hg
      rw [chk_pos hg.1, chk_pos hg.2, chk_pos (by rw [hu]; omega)]
      unfold gosN lowB at hn
      rw [hn, f77_L0_eq L hL kk e byz s K1 t b k (l ++ [(byz, wP L a 0#16)]) hc' (by simp at hk; omega) (by simp; omega)]
      simp only [List.length_append, List.length_cons, List.length_nil, List.append_assoc, List.cons_append, List.nil_append]
      have : (l.length + (0 + 1) + (t.length + 1) ≤ 100) ↔ (l.length + (t.length + 1 + 1) ≤ 100) := by omega
      simp only [this]
    · rw [if_neg h, some_bind, if_neg (by simp), if_pos (by simp), if_neg (by omega)]
      have e1 : l ++ (byz, wP L a 0#16) :: List.map (fun j => (byz, wP L j 0#16)) (b :: t) = (l ++ [(byz, wP L a 0#16)]) ++ List.map (fun j => (byz, wP L j 0#16)) (b :: t) := by simp
      rw [e1, take_app _ _ (by simp; omega), take_all _ (by simp; omega)]
end Go.Abs
namespace Go.Abs
theorem small_sz {s : BitVec 16} (h : s.toNat < 4096) : sz s ≤ 12 := by
  rw [← cntB_sz]
  have e : ∀ j, 12 ≤ j → s.toNat / 2 ^ j % 2 = 0 := fun j hj => by
    have : 2 ^ 12 ≤ 2 ^ j := Nat.pow_le_pow_right (by decide) hj
    rw [Nat.div_eq_of_lt (by omega)]
  have e12 := e 12 (by omega)
  have e13 := e 13 (by omega)
  have e14 := e 14 (by omega)
  have e15 := e 15 (by omega)
  have hb : ∀ p, cntB s.toNat p ≤ p := by
    intro p
    induction p with
    | zero => exact Nat.le_refl _
    | succ p ih => rw [cntB]; have := bit_01 s.toNat p; omega
  have h12 := hb 12
  simp only [cntB] at h12 ⊢
  omega
theorem memP_sz (s : BitVec 16) : (memP s.toNat 16).length = sz s := by rw [memP_len, cntB_sz]
theorem chooseB_len_map (s : BitVec 16) (k : Nat) {a : Nat} {t : List Nat} (h : cmb (sz s) k = a :: t) {β : Type} (g : BitVec 16 → β) : ((a :: t).map fun j => g (wP (memP s.toNat 16) j 0#16)) = (chooseB s k).map g := by
  rw [← wP_choose, h, List.map_map]
  rfl
theorem chooseB_nil {s : BitVec 16} {k : Nat} (h : sz s < k) : chooseB s k = [] := by
  rw [← wP_choose, cmb_nil _ _ h]; rfl
theorem f77_eq (s : BitVec 16) (hs : s.toNat < 4096) (k : Nat) (e : Int) (byz s' : BitVec 16) (kk : Int) (l : List Flt) (hl : l.length ≤ 100) :
    f77 f20_Y70002 s (k : Int) e byz s' kk l = if l.length + ((chooseB s k).map fun y => (byz, y)).length ≤ 100 then some (true, 0, e, byz, s', kk, l ++ (chooseB s k).map fun y => (byz, y))
      else some (false, 2, 3, byz, s', kk, (l ++ (chooseB s k).map fun y => (byz, y)).take 101) := by
  have hz := small_sz hs
  have hu : IntKind.bits .u32 = 32 := rfl
  unfold f77
  rw [f100_eq s hs, some_bind]
  by_cases hk : k ≤ sz s
  · rw [if_neg (by simp [memP_sz]; omega), jn_eq]
    obtain ⟨a, t, h1, h2, h3, h4⟩ := gOK_of hz hk
    obtain ⟨p1, p2, p3⟩ := pow12 (m := k) (by omega)
    have ht : ((k : Int)).toNat = k := by omega
    rw [ht, chk_pos (by rw [hu]; omega), chk_pos (by omega), show (1 : Int) * 2 ^ k - 1 = (a : Int) from by omega]
    rw [f77_L0_eq (memP s.toNat 16) (by rw [memP_sz]; exact hz) kk e byz s' _ t a FUEL l (by rw [memP_sz]; exact h3) (by unfold FUEL; omega) hl, chooseB_len_map s k h1 (fun y => (byz, y))]
    have e1 : ((chooseB s k).map fun y => (byz, y)).length = t.length + 1 := by rw [← chooseB_len_map s k h1 (fun y => (byz, y))]; simp
    rw [e1]
  · rw [if_pos (by simp [memP_sz]; omega), chooseB_nil (by omega), List.map_nil, List.append_nil, if_pos (by simpa using hl)]
abbrev R77a := Option (Bool × Nat × Int × Int × BitVec 16 × BitVec 16 × Int × (List (BitVec 16 × BitVec 16)))
theorem f77a_L1_eq (L : List Nat) (i : Nat) (K : BitVec 16 → R77a) (hL : L.length ≤ 12) (hi : i < 4096) : ∀ c k n w, n + c = L.length → c < k → f77a_L1 (L.map fun i : Nat => (i : Int)) (i : Int) K k (w, n) = K (wP (L.drop n) (i / 2 ^ n) w)
  | 0, k, n, w, hc, hk => by
    obtain ⟨k, rfl⟩ : ∃ q, k = q + 1 := ⟨k - 1, by omega⟩
    rw [f77a_L1.eq_2, ifd_neg (by rw [mp_len]; omega), List.drop_eq_nil_of_le (by omega)]
    rfl
  | c + 1, k, n, w, hc, hk => by
    obtain ⟨k, rfl⟩ : ∃ q, k = q + 1 := ⟨k - 1, by omega⟩
    have hu : IntKind.bits .u32 = 32 := rfl
    have hlt : i / 2 ^ n < 4096 := Nat.lt_of_le_of_lt (Nat.div_le_self _ _) hi
    rw [f77a_L1.eq_2, ifd_pos (by rw [mp_len]; omega), jn_eq, chk_pos (by rw [mp_len]; omega), chk_pos (by rw [mp_len]; omega), chk_pos (by rw [hu]; omega), mp_get L n (by omega), divc, and1 hlt, getD_drop L n 0 (by omega), wP, Nat.div_div_eq_div_mul, ← Nat.pow_succ, Int.toNat_natCast]
    by_cases hb : i / 2 ^ n % 2 = 1
    · rw [ifd_pos hb, if_pos hb, chk_pos (by omega)]
      dsimp only
      rw [chk_pos (by omega), f77a_L1_eq L i K hL hi c k (n + 1) _ (by omega) (by omega)]
    · rw [ifd_neg hb, if_neg hb]
      dsimp only
      rw [chk_pos (by omega), f77a_L1_eq L i K hL hi c k (n + 1) _ (by omega) (by omega)]
/-- the faults with some Byzantine servers -/
def zF (all : BitVec 16) (c : Nat) (x : BitVec 16) : List Flt := (chooseB (all &&& ~~~x) c).map fun y => (x, y)
theorem diff_small {all x : BitVec 16} (h : all.toNat < 4096) : (all &&& ~~~x).toNat < 4096 := by
  rw [BitVec.toNat_and]
  exact Nat.lt_of_le_of_lt Nat.and_le_left h
theorem y1_eq (c : Nat) (e : Int) (all w6 : BitVec 16) (i5 : Int) (l : List Flt) (x : BitVec 16) (hall : all.toNat < 4096) (hl : l.length ≤ 100) :
    f20_Y70001 ((c : Int), e, all, w6, i5, l) x = if l.length + (zF all c x).length ≤ 100 then some (0, ((c : Int), e, all, w6, i5, l ++ zF all c x)) else some (2, ((c : Int), 3, all, w6, i5, (l ++ zF all c x).take 101)) := by
  rw [f20_Y70001]
  unfold f50
  rw [some_bind]
  unfold f76
  rw [f77_eq _ (diff_small hall) c e x _ _ l hl]
  unfold zF
  split
  · rw [some_bind, some_bind]
    dsimp only
    rw [chk_pos (by decide), if_pos rfl]
  · rw [some_bind, some_bind]
    dsimp only
    rw [chk_pos (by decide), if_neg (by decide), if_pos rfl]
theorem f77a_L0_eq (L : List Nat) (hL : L.length ≤ 12) (c : Nat) (all w12 : BitVec 16) (hall : all.toNat < 4096) (i11 e : Int) (K1 : (Int × BitVec 16 × BitVec 16 × Int × Int × (List (BitVec 16 × BitVec 16)) × Nat) → R77a) :
    ∀ (t : List Nat) (a k : Nat) (l : List Flt), chainG L.length a t = true → t.length + 1 < k → l.length ≤ 100 →
      f77a_L0 f20_Y70001 (L.map fun i : Nat => (i : Int)) K1 k ((a : Int), i11, w12, all, e, (c : Int), l, 0) =
        if l.length + ((a :: t).flatMap fun j => zF all c (wP L j 0#16)).length ≤ 100 then K1 (i11, w12, all, e, (c : Int), l ++ (a :: t).flatMap fun j => zF all c (wP L j 0#16), 0)
        else some (false, 2, (c : Int), 3, all, w12, i11, (l ++ (a :: t).flatMap fun j => zF all c (wP L j 0#16)).take 101)
  | [], a, k, l, hc, hk, hl => by
    obtain ⟨k, rfl⟩ : ∃ q, k = q + 1 := ⟨k - 1, by simp at hk; omega⟩
    obtain ⟨k, rfl⟩ : ∃ q, k = q + 1 := ⟨k - 1, by simp at hk; omega⟩
    have hu : IntKind.bits .u32 = 32 := rfl
    obtain ⟨p1, p2, p3⟩ := pow12 hL
    unfold chainG at hc
    simp only [Bool.and_eq_true, Bool.or_eq_true, decide_eq_true_eq, beq_iff_eq] at hc
    have ha : a < 4096 := by have := Nat.pow_le_pow_right (n := 2) (by decide) hL; omega
    rw [f77a_L0.eq_2, mp_len, chk_pos (by rw [hu]; omega), ifd_pos (by omega), jn_eq, f77a_L1_eq L a _ hL ha L.length FUEL 0 _ (by omega) (fuel_lt (by omega)), jn_eq, chk_pos rfl, show (BitVec.ofInt 16 0) = 0#16 from rfl, List.drop_zero, Nat.pow_zero, Nat.div_one, y1_eq _ _ _ _ _ _ _ hall hl]
    simp only [List.flatMap_cons, List.flatMap_nil, List.append_nil]
    by_cases h : l.length + (zF all c (wP L a 0#16)).length ≤ 100
    · rw [if_pos h, if_pos h, some_bind, if_pos rfl, if_neg (by simp)]
      dsimp only
      rcases hc.2 with h0 | ⟨hg, h0⟩
      · rw [if_pos (by simp; omega)]
      · by_cases hz : a = 0
        · rw [if_pos (by simp; omega)]
        · rw [if_neg (by simp; omega)]
          unfold gosC lowB at hg
          simp only [Bool.and_eq_true, decide_eq_true_eq] at hg
          rw [chk_pos hg.1, chk_pos hg.2, chk_pos (by rw [hu]; omega)]
          unfold gosN lowB at h0
          rw [f77a_L0.eq_2, mp_len, chk_pos (by rw [hu]; omega), ifd_neg (by omega)]
    · rw [if_neg h, if_neg h, some_bind, if_neg (by simp), if_pos (by simp)]
  | b :: t, a, k, l, hc, hk, hl => by
    obtain ⟨k, rfl⟩ : ∃ q, k = q + 1 := ⟨k - 1, by omega⟩
    have hu : IntKind.bits .u32 = 32 := rfl
    obtain ⟨p1, p2, p3⟩ := pow12 hL
    unfold chainG at hc
    simp only [Bool.and_eq_true, Bool.not_eq_true', decide_eq_true_eq, beq_eq_false_iff_ne] at hc
    obtain ⟨⟨⟨⟨hc1, hc2⟩, hg⟩, hn⟩, hc'⟩ := hc
    have ha : a < 4096 := by have := Nat.pow_le_pow_right (n := 2) (by decide) hL; omega
    rw [f77a_L0.eq_2, mp_len, chk_pos (by rw [hu]; omega), ifd_pos (by omega), jn_eq, f77a_L1_eq L a _ hL ha L.length FUEL 0 _ (by omega) (fuel_lt (by omega)), jn_eq, chk_pos rfl, show (BitVec.ofInt 16 0) = 0#16 from rfl, List.drop_zero, Nat.pow_zero, Nat.div_one, y1_eq _ _ _ _ _ _ _ hall hl]
    rw [List.flatMap_cons, List.length_append]
    by_cases h : l.length + (zF all c (wP L a 0#16)).length ≤ 100
    · rw [if_pos h, some_bind, if_pos rfl, if_neg (by simp)]
      dsimp only
      rw [if_neg (by simp; omega)]
      unfold gosC lowB at hg
      simp only [Bool.and_eq_true, decide_eq_true_eq] at hg
      rw [chk_pos hg.1, chk_pos hg.2, chk_pos (by rw [hu]; omega)]
      unfold gosN lowB at hn
      rw [hn, f77a_L0_eq L hL c all w12 hall i11 e K1 t b k (l ++ zF all c (wP L a 0#16)) hc' (by simp at hk; omega) (by simp; omega)]
      rw [List.length_append, List.append_assoc, Nat.add_assoc]
    · rw [if_neg h, some_bind, if_neg (by simp), if_pos (by simp), if_neg (by omega), ← List.append_assoc]
      rw [take_app (l ++ zF all c (wP L a 0#16)) _ (by simp; omega)]
/-- the faults of thresholds -/
def thrP (all : BitVec 16) (b c : Nat) : List Flt := (chooseB all b).flatMap (zF all c)
theorem f77a_eq (all w12 : BitVec 16) (hall : all.toNat < 4096) (b c : Nat) (hb : b ≤ sz all) (e i11 : Int) :
    f77a f20_Y70001 all (b : Int) (c : Int) e all w12 i11 [] = if (thrP all b c).length ≤ 100 then some (true, 0, (c : Int), e, all, w12, i11, thrP all b c)
      else some (false, 2, (c : Int), 3, all, w12, i11, (thrP all b c).take 101) := by
  have hz := small_sz hall
  have hu : IntKind.bits .u32 = 32 := rfl
  unfold f77a
  rw [f100_eq all hall, some_bind, if_neg (by simp [memP_sz]; omega), jn_eq]
  obtain ⟨a, t, h1, h2, h3, h4⟩ := gOK_of hz hb
  obtain ⟨p1, p2, p3⟩ := pow12 (m := b) (by omega)
  have ht : ((b : Int)).toNat = b := by omega
  rw [ht, chk_pos (by rw [hu]; omega), chk_pos (by omega), show (1 : Int) * 2 ^ b - 1 = (a : Int) from by omega]
  rw [f77a_L0_eq (memP all.toNat 16) (by rw [memP_sz]; exact hz) c all w12 hall i11 e _ t a FUEL [] (by rw [memP_sz]; exact h3) (by unfold FUEL; omega) (by simp)]
  have e1 : ((a :: t).flatMap fun j => zF all c (wP (memP all.toNat 16) j 0#16)) = thrP all b c := by
    unfold thrP
    rw [← wP_choose, h1, List.flatMap_map]
  rw [e1, List.length_nil, Nat.zero_add, List.nil_append]
def allN (n : Nat) : BitVec 16 := ((BitVec.ofInt 16 1) <<< n) - (BitVec.ofInt 16 1)
theorem allN_ok : ∀ n, n ≤ 12 → (allN n).toNat < 4096 ∧ sz (allN n) = n
  | 0, _ => by decide
  | 1, _ => by decide
  | 2, _ => by decide
  | 3, _ => by decide
  | 4, _ => by decide
  | 5, _ => by decide
  | 6, _ => by decide
  | 7, _ => by decide
  | 8, _ => by decide
  | 9, _ => by decide
  | 10, _ => by decide
  | 11, _ => by decide
  | 12, _ => by decide
  | n + 13, h => absurd h (by omega)
def limF (l : List Flt) : List Flt × Int := if l.length ≤ 100 then (l, 0) else ([], 3)
theorem f20_eq (n b c : Nat) (hn : n ≤ 12) (hb : b ≤ n) (hc : c ≤ n - b) : f20 (n : Int) (b : Int) (c : Int) = some (limF (thrP (allN n) b c)) := by
  obtain ⟨h1, h2⟩ := allN_ok n hn
  unfold f20
  rw [chk_pos (by intro; omega), if_neg (by simp; omega), chk_pos (by omega), Int.toNat_natCast]
  unfold f50
  rw [some_bind]
  unfold f76a
  have := f77a_eq (allN n) (allN n) h1 b c (by omega) 0 (b : Int)
  generalize thrP (allN n) b c = T at this ⊢
  unfold allN at this
  dsimp only
  rw [this]
  unfold limF
  by_cases h : T.length ≤ 100
  · rw [if_pos h, if_pos h, some_bind, some_bind]
    dsimp only
    rw [chk_pos (by decide), if_pos rfl]
  · rw [if_neg h, if_neg h, some_bind, some_bind]
    dsimp only
    rw [chk_pos (by decide), if_neg (by decide), if_pos rfl]
/-! ### the reference -/
theorem f51_eq (x : BitVec 16) (k : Nat) : f51 x (k : Int) = some (chooseB x k) := by
  unfold f51
  rw [jn_eq]
  obtain ⟨N, hN⟩ : ∃ N : Nat, N = 65536 := ⟨_, rfl⟩
  have h := fold_up (f51_L0 x (k : Int) some) (List.range N) 0 (fun n l => l.length ≤ n) (fun l y => if (subB y x.toNat 16 && decide (cntB y 16 = k)) = true then l ++ [BitVec.ofNat 16 y] else l) some (fun q n s hn hi => by
    rw [List.length_range] at hn
    have hg : (List.range N).getD n 0 = n := by simp [List.getD_eq_getElem?_getD, hn]
    have ho : BitVec.ofInt 16 (n : Int) = BitVec.ofNat 16 n := BitVec.ofInt_natCast ..
    have hto : (BitVec.ofNat 16 n).toNat = n := ofNat_toNat16 (by omega)
    rw [hg, f51_L0_e2, ifd_pos (by omega), jn_eq, ho]
    unfold f47
    rw [some_bind, f24_eq]
    have hs : ((BitVec.ofNat 16 n &&& ~~~x) == (BitVec.ofInt 16 0)) = subB n x.toNat 16 := by
      have := sub_subB (BitVec.ofNat 16 n) x
      rw [hto] at this
      exact this
    have hz : (sz (BitVec.ofNat 16 n)) = cntB n 16 := by rw [← cntB_sz, hto]
    rw [hs, hz]
    cases hb : subB n x.toNat 16 with
    | false =>
      rw [show (false == true) = false from rfl, optc_f, chk_pos (by intro; trivial), if_neg (by simp), if_neg (by simp)]
      dsimp only
      rw [chk_pos (by omega)]
    | true =>
      rw [show (true == true) = true from rfl, optc_t, some_bind, chk_pos (by intro; trivial)]
      by_cases hc : cntB n 16 = k
      · rw [if_pos (by simp [hc]), if_pos (by simp [hc]), chk_pos (by omega)]
        dsimp only
        rw [chk_pos (by omega)]
      · rw [if_neg (by simp; omega), if_neg (by simp [hc])]
        dsimp only
        rw [chk_pos (by omega)]) (fun n l hn hi => by
    split
    · simp; omega
    · omega) (fun q l hi => by
    rw [List.length_range, f51_L0_e2, ifd_neg (by omega)]) N FUEL 0 [] (by rw [List.length_range]; omega) (fuel_lt (by omega)) (Nat.le_refl _)
  rw [List.drop_zero] at h
  refine Eq.trans h ?_
  congr 1
  unfold chooseB
  rw [← sbs_filter, show 2 ^ 16 = N from by rw [hN]]
  have : ∀ (L : List Nat) (out : List (BitVec 16)), L.foldl (fun l y => if (subB y x.toNat 16 && decide (cntB y 16 = k)) = true then l ++ [BitVec.ofNat 16 y] else l) out = out ++ (L.filter fun y => subB y x.toNat 16 && decide (cntB y 16 = k)).map (BitVec.ofNat 16) := by
    intro L
    induction L with
    | nil => intro out; simp
    | cons y L ih =>
      intro out
      rw [List.foldl_cons, ih]
      by_cases hy : (subB y x.toNat 16 && decide (cntB y 16 = k)) = true
      · rw [if_pos hy, List.filter_cons_of_pos (by exact hy)]; simp
      · rw [if_neg hy, List.filter_cons_of_neg (by exact hy)]
  rw [this, List.nil_append]
theorem f21_L1_eq (r4 : List (BitVec 16)) (n5 : Nat) (h5 : n5 < r4.length) (r7 : List (BitVec 16)) (h7 : r7.length ≤ 1000000) (K2 : List Flt → Option (List Flt × Int)) : ∀ (c k n8 : Nat) (l : List Flt), n8 + c = r7.length → c < k → l.length ≤ 101 →
    f21_L1 r4 n5 r7 K2 k (n8, l) = K2 ((l ++ (r7.drop n8).map fun y => (r4.getD n5 0#16, y)).take 101)
  | 0, k, n8, l, hn, hk, hl => by
    obtain ⟨k, rfl⟩ : ∃ q, k = q + 1 := ⟨k - 1, by omega⟩
    rw [f21_L1.eq_2, if_neg (by simp; omega), List.drop_eq_nil_of_le (by omega), List.map_nil, List.append_nil, take_all l hl]
  | c + 1, k, n8, l, hn, hk, hl => by
    obtain ⟨k, rfl⟩ : ∃ q, k = q + 1 := ⟨k - 1, by omega⟩
    by_cases h : l.length ≤ 100
    · rw [f21_L1.eq_2, if_pos (by simp; omega), chk_pos (by omega), chk_pos (by omega), chk_pos (by omega), chk_pos (by omega), chk_pos (by omega), chk_pos (by omega), f21_L1_eq r4 n5 h5 r7 h7 K2 c k (n8 + 1) _ (by omega) (by omega) (by simp; omega), getD_drop r7 n8 0#16 (by omega)]
      simp
    · rw [f21_L1.eq_2, if_neg (by simp; omega), take_app l _ (by omega), take_all l hl]
theorem cmb_len : ∀ m k, (cmb m k).length ≤ 2 ^ m
  | 0, k => by unfold cmb; split <;> simp
  | m + 1, k => by
    rw [cmb, List.length_append, Nat.pow_succ]
    have h1 := cmb_len m k
    split
    · have h2 := cmb_len m (k - 1)
      rw [List.length_map]; omega
    · rw [List.length_nil]; omega
theorem chooseB_len (s : BitVec 16) (k : Nat) (hs : s.toNat < 4096) : (chooseB s k).length ≤ 4096 := by
  rw [← wP_choose, List.length_map]
  have h := cmb_len (sz s) k
  have := Nat.pow_le_pow_right (n := 2) (by decide) (small_sz hs)
  omega
theorem f21_L0_eq (n c : Nat) (hn : n ≤ 12) (r4 : List (BitVec 16)) (h4 : r4.length ≤ 1000000) (K1 : List Flt → Option (List Flt × Int)) : ∀ (m k n5 : Nat) (l : List Flt), n5 + m = r4.length → m < k → l.length ≤ 100 →
    f21_L0 (n : Int) (c : Int) r4 K1 k (n5, l) = if l.length + ((r4.drop n5).flatMap (zF (allN n) c)).length ≤ 100 then K1 (l ++ (r4.drop n5).flatMap (zF (allN n) c)) else some ([], 3)
  | 0, k, n5, l, hm, hk, hl => by
    obtain ⟨k, rfl⟩ : ∃ q, k = q + 1 := ⟨k - 1, by omega⟩
    rw [f21_L0.eq_2, ifd_neg (by omega), List.drop_eq_nil_of_le (by omega), List.flatMap_nil, List.append_nil, if_pos (by simpa using hl)]
  | m + 1, k, n5, l, hm, hk, hl => by
    obtain ⟨k, rfl⟩ : ∃ q, k = q + 1 := ⟨k - 1, by omega⟩
    obtain ⟨h1, h2⟩ := allN_ok n hn
    have hd := diff_small (x := r4.getD n5 0#16) h1
    unfold allN at hd
    rw [f21_L0.eq_2, ifd_pos (by omega), Int.toNat_natCast, f51_eq, some_bind, chk_pos (by omega), chk_pos (by omega), jn_eq]
    have hlen := chooseB_len _ c hd
    rw [f21_L1_eq r4 n5 (by omega) _ (by omega) _ (chooseB ((((BitVec.ofInt 16 1) <<< n) - (BitVec.ofInt 16 1)) &&& ~~~(r4.getD n5 0#16)) c).length FUEL 0 l (by omega) (fuel_lt (by omega)) (by omega), List.drop_zero, getD_drop r4 n5 0#16 (by omega), List.flatMap_cons]
    have e : ((chooseB ((((BitVec.ofInt 16 1) <<< n) - (BitVec.ofInt 16 1)) &&& ~~~(r4.getD n5 0#16)) c).map fun y => (r4.getD n5 0#16, y)) = zF (allN n) c (r4.getD n5 0#16) := rfl
    rw [e]
    generalize zF (allN n) c (r4.getD n5 0#16) = Z
    rw [List.length_append]
    by_cases h : l.length + Z.length ≤ 100
    · rw [take_all _ (by simp; omega), ifd_neg (by simp; omega), chk_pos (by omega), f21_L0_eq n c hn r4 h4 K1 m k (n5 + 1) _ (by omega) (by omega) (by simp; omega), List.length_append, List.append_assoc, Nat.add_assoc]
    · rw [ifd_pos (by rw [List.length_take, List.length_append]; omega), if_neg (by omega)]
theorem f21_eq (n b c : Nat) (hn : n ≤ 12) (hb : b ≤ n) (hc : c ≤ n - b) : f21 (n : Int) (b : Int) (c : Int) = some (limF (thrP (allN n) b c)) := by
  obtain ⟨h1, h2⟩ := allN_ok n hn
  unfold f21
  rw [chk_pos (by intro; omega), if_neg (by simp; omega), chk_pos (by omega), Int.toNat_natCast, f51_eq, some_bind, jn_eq]
  have hlen := chooseB_len (allN n) b h1
  unfold allN at hlen
  rw [f21_L0_eq n c hn _ (by omega) _ (chooseB (((BitVec.ofInt 16 1) <<< n) - (BitVec.ofInt 16 1)) b).length FUEL 0 [] (by omega) (fuel_lt (by omega)) (by simp), List.drop_zero, List.length_nil, Nat.zero_add, List.nil_append]
  have e : (chooseB (((BitVec.ofInt 16 1) <<< n) - (BitVec.ofInt 16 1)) b).flatMap (zF (allN n) c) = thrP (allN n) b c := rfl
  rw [e]
  unfold limF
  split
  · rename_i h
    unfold f52
    try dsimp only
    rw [ifd_neg (by omega), some_bind]
  · rfl
end Go.Abs
namespace Go.Abs
theorem f12_true : f12 = some true := by kernel_rfl
end Go.Abs
namespace Go.Abs
theorem mem_thr {all : BitVec 16} {b c : Nat} {u v : BitVec 16} : (u, v) ∈ thrP all b c ↔ (sub u all = true ∧ sz u = b) ∧ sub v (all &&& ~~~u) = true ∧ sz v = c := by
  unfold thrP zF
  rw [List.mem_flatMap]
  constructor
  · rintro ⟨x, hx, h⟩
    obtain ⟨y, hy, e⟩ := List.mem_map.1 h
    cases e
    exact ⟨mem_chooseB.1 hx, mem_chooseB.1 hy⟩
  · rintro ⟨h1, h2⟩
    exact ⟨u, mem_chooseB.2 h1, List.mem_map.2 ⟨v, mem_chooseB.2 h2, rfl⟩⟩
theorem thr_ne {all : BitVec 16} {b c : Nat} (h : b + c ≤ sz all) : thrP all b c ≠ [] := by
  obtain ⟨u, hu⟩ := List.exists_mem_of_ne_nil _ (chooseB_ne (s := all) (k := b) (by omega))
  obtain ⟨h1, h2⟩ := mem_chooseB.1 hu
  have h3 := sz_diff h1
  obtain ⟨v, hv⟩ := List.exists_mem_of_ne_nil _ (chooseB_ne (s := all &&& ~~~u) (k := c) (by omega))
  exact List.ne_nil_of_mem (mem_thr.2 ⟨⟨h1, h2⟩, mem_chooseB.1 hv⟩)
/-- servers that are left are others -/
theorem left_disj {all u v : BitVec 16} (h : sub v (all &&& ~~~u) = true) : u &&& v = 0#16 := by
  rw [sub_and, Bool.and_eq_true, beq_iff_eq] at h
  rw [BitVec.and_comm]; exact h.2
theorem left_sub {all u v : BitVec 16} (h : sub v (all &&& ~~~u) = true) : sub v all = true := by
  rw [sub_and, Bool.and_eq_true] at h
  exact h.1
theorem sub_left {x y : BitVec 16} : sub x (x ||| y) = true := by
  have := sub_refl (x ||| y)
  rw [sub_or, Bool.and_eq_true] at this
  exact this.1
theorem sub_right {x y : BitVec 16} : sub y (x ||| y) = true := by
  have := sub_refl (x ||| y)
  rw [sub_or, Bool.and_eq_true] at this
  exact this.2
theorem thr_f {all : BitVec 16} {b c : Nat} {a : Flt} (h : a ∈ thrP all b c) : disj a ∧ sub (ftyS a) all = true ∧ sz a.1 = b ∧ sz a.2 = c ∧ sz (ftyS a) = b + c := by
  obtain ⟨⟨h1, h2⟩, h3, h4⟩ := mem_thr.1 (show (a.1, a.2) ∈ _ from h)
  refine ⟨left_disj h3, ?_, h2, h4, ?_⟩
  · unfold ftyS; rw [sub_or, h1, left_sub h3]; rfl
  · unfold ftyS; rw [sz_or (left_disj h3), h2, h4]
theorem sub_small {x : BitVec 16} {n : Nat} (hn : n ≤ 12) (h : sub x (allN n) = true) : x.toNat < 4096 := by
  have h1 := (allN_ok n hn).1
  have h2 : x &&& allN n = x := by
    apply BitVec.eq_of_getLsbD_eq
    intro i hi
    have := sub_iff.1 h i hi
    rw [BitVec.getLsbD_and]
    cases hx : x.getLsbD i with
    | true => rw [this hx]; rfl
    | false => rfl
  have : x.toNat ≤ (allN n).toNat := by
    rw [← h2, BitVec.toNat_and]; exact Nat.and_le_right
  omega
theorem same_cov {a b : Flt} (ha : disj a) (hb : disj b) (h1 : sz a.1 = sz b.1) (h2 : sz (ftyS a) = sz (ftyS b)) (h : cov b a = true) : a = b := by
  unfold cov at h
  rw [Bool.and_eq_true] at h
  have e1 : a.1 = b.1 := (sub_sz h.1).2 h1
  have e2 : ftyS a = ftyS b := (sub_sz h.2).2 h2
  refine Prod.ext e1 ?_
  rw [disj_diff ha, disj_diff hb, e1, e2]
theorem thr_sorted (all : BitVec 16) (b c : Nat) : (thrP all b c).Pairwise fun x y => keyF x < keyF y := by
  unfold thrP
  rw [List.pairwise_flatMap]
  constructor
  · intro x _
    unfold zF
    rw [List.pairwise_map]
    refine List.Pairwise.imp_of_mem ?_ (chooseB_sorted (all &&& ~~~x) c)
    intro y z hy hz h
    have h1 := (mem_chooseB.1 hy).2
    have h2 := (mem_chooseB.1 hz).2
    unfold keyF key
    dsimp only
    rw [h1, h2]; omega
  · refine List.Pairwise.imp_of_mem ?_ (chooseB_sorted all b)
    intro x x' hx hx' h y hy z hz
    have h1 := (mem_chooseB.1 hx).2
    have h2 := (mem_chooseB.1 hx').2
    obtain ⟨y', _, rfl⟩ := List.mem_map.1 hy
    obtain ⟨z', _, rfl⟩ := List.mem_map.1 hz
    have h3 := key_lt y'
    have h4 := key_lt z'
    unfold keyF
    dsimp only
    have : key x < key x' := by unfold key; rw [h1, h2]; omega
    omega
theorem scanF_none {x : List Flt} (h1 : ∀ a, a ∈ x → errF a = 0) (h2 : x.Pairwise fun a b => keyF a < keyF b ∧ cov a b = false ∧ cov b a = false) : ∀ c n, n + c = x.length → scanF x c n = none
  | 0, _, _ => rfl
  | c + 1, n, hn => by
    have hm : x.getD n default ∈ x := by
      rw [List.getD_eq_getElem?_getD, List.getElem?_eq_getElem (by omega)]
      exact List.getElem_mem _
    have hg : ∀ i (_ : i < x.length), x.getD i default = x[i] := fun i hi => by
      rw [List.getD_eq_getElem?_getD, List.getElem?_eq_getElem hi]; rfl
    have hp := List.pairwise_iff_getElem.1 h2
    unfold scanF
    rw [if_neg (by rw [h1 _ hm]; simp), if_neg, if_neg, scanF_none h1 h2 c (n + 1) (by omega)]
    · rintro ⟨h3, h4⟩
      apply h4
      rw [hg (n - 1) (by omega), hg n (by omega)]
      exact (hp (n - 1) n (by omega) (by omega) (by omega)).1
    · intro ha
      unfold anyC at ha
      obtain ⟨y, hy, hc⟩ := List.any_eq_true.1 ha
      obtain ⟨i, hi, rfl⟩ := List.getElem_of_mem hy
      rw [List.length_take] at hi
      rw [List.getElem_take, hg n (by omega)] at hc
      have := (hp i n (by omega) (by omega) (by omega)).2
      rw [this.1, this.2] at hc
      cases hc
theorem thr_valid {n b c : Nat} (hn : n ≤ 12) (h : b + c ≤ n) (hl : (thrP (allN n) b c).length ≤ 100) : validF (thrP (allN n) b c) = 0 := by
  have hz := (allN_ok n hn).2
  have hne := thr_ne (all := allN n) (b := b) (c := c) (by omega)
  unfold validF
  rw [if_neg (fun e => hne (List.eq_nil_of_length_eq_zero e)), if_neg (by omega), scanF_none _ _ _ 0 (by omega)]
  · rfl
  · intro a ha
    obtain ⟨h1, h2, _⟩ := thr_f ha
    unfold errF
    rw [if_pos (sub_small hn h2), if_pos (show a.1 &&& a.2 = 0#16 from h1)]
  · refine List.Pairwise.imp_of_mem ?_ (thr_sorted (allN n) b c)
    intro x y hx hy hk
    obtain ⟨a1, _, a2, _, a3⟩ := thr_f hx
    obtain ⟨b1, _, b2, _, b3⟩ := thr_f hy
    have hxy : x ≠ y := fun e => by rw [e] at hk; omega
    refine ⟨hk, ?_, ?_⟩
    · cases hc : cov x y with
      | false => rfl
      | true => exact absurd (same_cov b1 a1 (by omega) (by omega) hc).symm hxy
    · cases hc : cov y x with
      | false => rfl
      | true => exact absurd (same_cov a1 b1 (by omega) (by omega) hc) hxy
theorem thr_tol {n b c : Nat} (hn : n ≤ 12) (h : b + c ≤ n) (a : Flt) (ha : disj a) (hs : sub (ftyS a) (allN n) = true) : tol (thrP (allN n) b c) a = (decide (sz a.1 ≤ b) && decide (sz a.1 + sz a.2 ≤ b + c)) := by
  have hz := (allN_ok n hn).2
  have hf : sz (ftyS a) = sz a.1 + sz a.2 := by unfold ftyS; exact sz_or ha
  rw [Bool.eq_iff_iff, Bool.and_eq_true, decide_eq_true_eq, decide_eq_true_eq]
  unfold tol
  rw [List.any_eq_true]
  constructor
  · rintro ⟨f, hf1, hf2⟩
    obtain ⟨_, _, a2, _, a3⟩ := thr_f hf1
    unfold cov at hf2
    rw [Bool.and_eq_true] at hf2
    have b1 := (sub_sz hf2.1).1
    have b2 := (sub_sz hf2.2).1
    exact ⟨by omega, by omega⟩
  · rintro ⟨h1, h2⟩
    have s1 : sub a.1 (allN n) = true := sub_trans sub_left hs
    by_cases hle : sz (ftyS a) ≤ b
    · -- all of them are Byzantine
      obtain ⟨u, u1, u2, u3⟩ := between16 (k := b) hs hle (by omega)
      have d1 := sz_diff u2
      obtain ⟨v, hv⟩ := List.exists_mem_of_ne_nil _ (chooseB_ne (s := allN n &&& ~~~u) (k := c) (by omega))
      obtain ⟨v1, v2⟩ := mem_chooseB.1 hv
      refine ⟨(u, v), mem_thr.2 ⟨⟨u2, u3⟩, v1, v2⟩, ?_⟩
      unfold cov
      rw [Bool.and_eq_true]
      exact ⟨sub_trans (sub_left (y := a.2)) u1, sub_trans u1 (sub_left (y := v))⟩
    · obtain ⟨u, u1, u2, u3⟩ := between16 (s := a.1) (t := ftyS a) (k := b) sub_left h1 (by omega)
      have u4 : sub u (allN n) = true := sub_trans u2 hs
      have d1 := sz_diff u4
      have d2 := sz_diff u2
      have s2 : sub (ftyS a &&& ~~~u) (allN n &&& ~~~u) = true := by
        refine sub_iff.2 fun i hi hx => ?_
        rw [bit_diff _ _ i hi, Bool.and_eq_true] at hx ⊢
        exact ⟨sub_iff.1 hs i hi hx.1, hx.2⟩
      obtain ⟨v, v1, v2, v3⟩ := between16 (k := c) s2 (by omega) (by omega)
      refine ⟨(u, v), mem_thr.2 ⟨⟨u4, u3⟩, v2, v3⟩, ?_⟩
      unfold cov
      rw [Bool.and_eq_true]
      refine ⟨u1, ?_⟩
      have := or_diff u2
      rw [← this, sub_or, Bool.and_eq_true]
      exact ⟨sub_left (y := v), sub_trans v1 (sub_right (x := u))⟩
theorem allN_bits : ∀ n, n ≤ 12 → ∀ i, i < n → (allN n).getLsbD i = true := by decide
theorem shl_one : ∀ n, n ≤ 12 → ((BitVec.ofInt 16 1) <<< n).toNat = 2 ^ n := by decide
theorem sub_allN {n : Nat} (hn : n ≤ 12) {x : BitVec 16} (h : x.toNat < 2 ^ n) : sub x (allN n) = true := by
  refine sub_iff.2 fun i _ hx => ?_
  rcases Nat.lt_or_ge i n with h1 | h1
  · exact allN_bits n hn i h1
  · exfalso
    have e : x.getLsbD i = x.toNat.testBit i := rfl
    rw [e, Nat.testBit_lt_two_pow (Nat.lt_of_lt_of_le h (Nat.pow_le_pow_right (n := 2) (by decide) h1))] at hx
    cases hx
theorem f22_refl (l : List Flt) (hl : l.length ≤ 1000000) : f22 l l = some true := by
  unfold f22
  rw [if_neg (by simp), jn_eq]
  have : ∀ (m k n : Nat), n + m = l.length → m < k → f22_L0 l l (fun _ => some true) k n = some true := by
    intro m
    induction m with
    | zero =>
      intro k n hn hk
      obtain ⟨k, rfl⟩ : ∃ z, k = z + 1 := ⟨k - 1, by omega⟩
      rw [f22_L0.eq_2, ifd_neg (by omega)]
    | succ m ih =>
      intro k n hn hk
      obtain ⟨k, rfl⟩ : ∃ z, k = z + 1 := ⟨k - 1, by omega⟩
      rw [f22_L0.eq_2, ifd_pos (by omega), chk_pos (by omega), chk_pos (by omega), if_neg (by simp), chk_pos (by omega)]
      exact ih k (n + 1) (by omega) (by omega)
  exact this l.length FUEL 0 (by omega) (fuel_lt (by omega))
/-- what is out of range -/
def badT (n b c : Int) : Bool := (((((decide (n < 0)) || (decide (n > 12))) || (decide (b < 0))) || (decide (c < 0))) || (decide (b > n))) || (decide (c > (n - b)))
theorem f20_bad (n b c : Int) (h : badT n b c = true) : f20 n b c = some ([], 7) := by
  unfold f20
  rw [chk_pos (by
    intro h1
    simp at h1
    omega)]
  exact if_pos h
theorem f21_bad (n b c : Int) (h : badT n b c = true) : f21 n b c = some ([], 7) := by
  unfold f21
  rw [chk_pos (by
    intro h1
    simp at h1
    omega)]
  exact if_pos h
theorem f5_true (n b c : Int) (u v : BitVec 16) (_ : -9223372036854775808 ≤ n) (_ : n ≤ 9223372036854775807) (_ : -9223372036854775808 ≤ b ∧ b ≤ 9223372036854775807) (_ : -9223372036854775808 ≤ c ∧ c ≤ 9223372036854775807) : f5 n b c u v = some true := by
  unfold f5
  rw [f12_true, some_bind, if_neg (by simp)]
  by_cases hbad : badT n b c = true
  · rw [f20_bad n b c hbad, f21_bad n b c hbad, some_bind, some_bind]
    have hr := f22_refl [] (by simp)
    rw [show (((7 : Int) != 7) == false) = true from rfl, optc_t]
    dsimp only
    rw [hr, some_bind, if_pos (by rfl), show (((7 : Int) == 7) == true) = true from rfl, optc_t, some_bind]
    rfl
  · unfold badT at hbad
    simp only [Bool.or_eq_true, decide_eq_true_eq, not_or] at hbad
    obtain ⟨n, rfl⟩ := Int.eq_ofNat_of_zero_le (show 0 ≤ n by omega)
    obtain ⟨b, rfl⟩ := Int.eq_ofNat_of_zero_le (show 0 ≤ b by omega)
    obtain ⟨c, rfl⟩ := Int.eq_ofNat_of_zero_le (show 0 ≤ c by omega)
    have hn : n ≤ 12 := by omega
    have hbc : b + c ≤ n := by omega
    rw [f20_eq n b c hn (by omega) (by omega), f21_eq n b c hn (by omega) (by omega), some_bind, some_bind]
    unfold limF
    by_cases hl : (thrP (allN n) b c).length ≤ 100
    · rw [if_pos hl]
      have hr := f22_refl (thrP (allN n) b c) (by omega)
      have h13 : f13 (thrP (allN n) b c) = some 0 := by rw [f13_eq, thr_valid hn hbc hl]
      have h18 : u &&& v = 0#16 → (u ||| v).toNat < 2 ^ n → f18 (thrP (allN n) b c) u v = some (decide (sz u ≤ b) && decide (sz u + sz v ≤ b + c)) := fun hd hr2 => by
        have h18 := f18_eq (thrP (allN n) b c) (u, v) (by omega)
        have ht := thr_tol hn hbc (u, v) hd (sub_allN hn hr2)
        dsimp only at h18 ht
        rw [h18, ht]
      generalize thrP (allN n) b c = T at hl hr h13 h18 ⊢
      rw [show (((0 : Int) != 0) == false) = true from rfl, optc_t]
      dsimp only
      rw [hr, some_bind, if_neg (by simp)]
      have h23 : f23 u v = some (u ||| v) := rfl
      by_cases hd : u &&& v = 0#16
      · rw [show ((!((u &&& v) == (BitVec.ofInt 16 0))) == false) = true from by rw [hd]; rfl, optc_t, h23, some_bind, chk_pos (by intro; omega), Int.toNat_natCast, shl_one n hn]
        by_cases hr2 : (u ||| v).toNat < 2 ^ n
        · rw [if_neg (by rw [hd, decide_eq_false (by omega)]; simp), f24_eq, some_bind, f24_eq, some_bind, h13, some_bind]
          have z1 : sz u ≤ 16 := by rw [← cntB_sz]; exact cntB_le u.toNat 16
          have z2 : sz v ≤ 16 := by rw [← cntB_sz]; exact cntB_le v.toNat 16
          rw [show (((0 : Int) == 0) == true) = true from rfl, optc_t, h18 hd hr2, some_bind, chk_pos (by intro; omega), chk_pos (by intro; omega), chk_pos (by intro; omega), chk_pos (by intro; omega), chk_pos (by intro; omega), chk_pos (by intro _ _ h; rw [h]; rfl)]
          have e1 : decide ((sz u : Int) ≤ (b : Int)) = decide (sz u ≤ b) := by rw [decide_eq_decide]; omega
          have e2 : decide ((sz u : Int) + (sz v : Int) ≤ (b : Int) + (c : Int)) = decide (sz u + sz v ≤ b + c) := by rw [decide_eq_decide]; omega
          rw [e1, e2]
          simp
        · rw [if_pos (by rw [decide_eq_true (by omega)]; simp), h13, some_bind]; rfl
      · have hd' : ((u &&& v) == (BitVec.ofInt 16 0)) = false := by simpa using hd
        rw [hd', show ((!false) == false) = false from rfl, optc_f, chk_pos (by intro h; cases h), if_pos (by rfl), h13, some_bind]; rfl
    · rw [if_neg hl]
      have hr := f22_refl [] (by simp)
      rw [show (((3 : Int) != 3) == false) = true from rfl, optc_t]
      dsimp only
      rw [hr, some_bind, if_pos (by rfl), show (((3 : Int) == 3) == true) = true from rfl, optc_t, some_bind]
      rfl
end Go.Abs
