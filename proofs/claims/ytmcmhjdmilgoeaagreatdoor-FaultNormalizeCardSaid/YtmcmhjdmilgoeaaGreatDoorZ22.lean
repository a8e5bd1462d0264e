/- Part 22 of the proof: Pl, Pl19, Val19, Tol19, Cpt, Nrm19, Nrm2, Aw19, F19Law6. -/
import Derived.Test.YtmcmhjdmilgoeaaGreatDoorZ21
namespace Go.Abs
theorem chk_pos {p : Prop} [Decidable p] {α : Type} {x : Option α} (h : p) : chk p x = x := if_pos h
theorem ifd_pos {p : Prop} [Decidable p] {α : Type} {x y : α} (h : p) : (if decide p = true then x else y) = x := if_pos (decide_eq_true h)
theorem ifd_neg {p : Prop} [Decidable p] {α : Type} {x y : α} (h : ¬ p) : (if decide p = true then x else y) = y := if_neg (by simpa using h)
theorem jn_eq {α β : Type} (K : α → Option β) (x : (α → Option β) → Option β) : jn K x = x K := rfl
theorem optc_t {α β : Type} [Inhabited α] {x : Option α} {k : α → Option β} : optc true x k = x.bind k := rfl
theorem optc_f {α β : Type} [Inhabited α] {x : Option α} {k : α → Option β} : optc false x k = k default := rfl
theorem some_bind {α β : Type} (a : α) (f : α → Option β) : (some a).bind f = f a := rfl
theorem abc_eq {α : Type} [DecidableEq α] {q : Prop} [Decidable q] {x y : Option α} (h : q → x = y) : abc q x y = y := by
  unfold abc both
  split
  · rename_i hq; rw [h hq]; simp
  · rfl
theorem fuel_lt {n : Nat} (h : n ≤ 4611686018427387903) : n < FUEL := by unfold FUEL; omega
theorem getD_drop {α : Type} (x : List α) (n : Nat) (d : α) (h : n < x.length) : x.drop n = x.getD n d :: x.drop (n + 1) := by
  rw [List.drop_eq_getElem_cons h]
  simp [List.getD_eq_getElem?_getD, h]
/-- .. without ways out. -/
theorem fold_up {α S R : Type} (L : Nat → Nat × S → Option R) (x : List α) (d : α) (Inv : Nat → S → Prop) (g : S → α → S) (K : S → Option R)
    (h : ∀ k n s, n < x.length → Inv n s → L (k + 1) (n, s) = L k (n + 1, g s (x.getD n d)))
    (hI : ∀ n s, n < x.length → Inv n s → Inv (n + 1) (g s (x.getD n d)))
    (he : ∀ k s, Inv x.length s → L (k + 1) (x.length, s) = K s) : ∀ c k n s, n + c = x.length → c < k → Inv n s → L k (n, s) = K ((x.drop n).foldl g s)
  | 0, k, n, s, hn, hk, hi => by
    obtain ⟨k, rfl⟩ : ∃ q, k = q + 1 := ⟨k - 1, by omega⟩
    obtain rfl : n = x.length := by omega
    rw [he k s hi, List.drop_eq_nil_of_le (Nat.le_refl _)]; rfl
  | c + 1, k, n, s, hn, hk, hi => by
    obtain ⟨k, rfl⟩ : ∃ q, k = q + 1 := ⟨k - 1, by omega⟩
    have hlt : n < x.length := by omega
    rw [h k n s hlt hi, getD_drop x n d hlt]
    exact fold_up L x d Inv g K h hI he c k (n + 1) _ (by omega) (by omega) (hI n s hlt hi)
/-- A search: the first element of which p holds. -/
theorem find_up {α R : Type} (L : Nat → Nat → Option R) (x : List α) (d : α) (p : α → Bool) (r : Nat → Option R) (K : Option R)
    (h : ∀ k n, n < x.length → L (k + 1) n = if p (x.getD n d) = true then r n else L k (n + 1))
    (he : ∀ k, L (k + 1) x.length = K) : ∀ c k n, n + c = x.length → c < k →
      (∃ m, n ≤ m ∧ m < x.length ∧ p (x.getD m d) = true ∧ L k n = r m ∧ (x.drop n).any p = true) ∨ (L k n = K ∧ (x.drop n).any p = false)
  | 0, k, n, hn, hk => by
    obtain ⟨k, rfl⟩ : ∃ q, k = q + 1 := ⟨k - 1, by omega⟩
    obtain rfl : n = x.length := by omega
    exact .inr ⟨he k, by rw [List.drop_eq_nil_of_le (Nat.le_refl _)]; rfl⟩
  | c + 1, k, n, hn, hk => by
    obtain ⟨k, rfl⟩ : ∃ q, k = q + 1 := ⟨k - 1, by omega⟩
    have hlt : n < x.length := by omega
    rw [h k n hlt, getD_drop x n d hlt]
    by_cases hp : p (x.getD n d) = true
    · rw [if_pos hp]; exact .inl ⟨n, Nat.le_refl _, hlt, hp, rfl, by rw [List.any_cons, hp]; rfl⟩
    · rw [if_neg hp]
      have hp' : p (x.getD n d) = false := by simpa using hp
      rw [List.any_cons, hp', Bool.false_or]
      rcases find_up L x d p r K h he c k (n + 1) (by omega) (by omega) with ⟨m, h1, h2⟩ | h2
      · exact .inl ⟨m, by omega, h2⟩
      · exact .inr h2
/-- .. of which only is asked whether there is one. -/
theorem any_up {α R : Type} (L : Nat → Nat → Option R) (x : List α) (d : α) (p : α → Bool) (r : Option R) (K : Option R)
    (h : ∀ k n, n < x.length → L (k + 1) n = if p (x.getD n d) = true then r else L k (n + 1))
    (he : ∀ k, L (k + 1) x.length = K) (k : Nat) (hk : x.length < k) : L k 0 = if x.any p = true then r else K := by
  rcases find_up L x d p (fun _ => r) K h he x.length k 0 (by omega) hk with ⟨m, _, _, _, h1, h2⟩ | ⟨h1, h2⟩
  · rw [h1, if_pos (by simpa using h2)]
  · rw [h1, if_neg (by simpa using h2)]
end Go.Abs
namespace Go.Abs
/-- the servers of a set -/
def mems (x : BitVec 16) : List Nat := (List.range 16).filter fun i => decide (x.toNat / 2 ^ i % 2 = 1)
theorem bit_eq (x : BitVec 16) (n : Nat) : (((x >>> n) &&& (BitVec.ofInt 16 1)) == (BitVec.ofInt 16 1)) = decide (x.toNat / 2 ^ n % 2 = 1) := by
  have h := bit_toNat x n
  rw [Bool.eq_iff_iff, beq_iff_eq, decide_eq_true_eq, ← h]
  constructor
  · intro e; rw [e]; rfl
  · intro e; exact BitVec.eq_of_toNat_eq e
theorem f78_eq (x : BitVec 16) (n : Nat) (h : n < 16) : f78 x (n : Int) = some (decide (x.toNat / 2 ^ n % 2 = 1)) := by
  unfold f78
  rw [chk_pos (by intro; omega), Int.toNat_natCast, bit_eq]
  have h1 : (decide ((n : Int) ≥ 0)) = true := by simp
  have h2 : (decide ((n : Int) < 16)) = true := by simp; omega
  rw [h1, h2]
  rfl
theorem f53_L0_eq (x : BitVec 16) (K : List Int → Option (List Int)) : ∀ (c k n : Nat) (l : List Int), n + c = 16 → c < k → l.length ≤ n →
    f53_L0 x K k (n, l) = K (l ++ ((List.range' n c).filter fun i => decide (x.toNat / 2 ^ i % 2 = 1)).map fun i : Nat => (i : Int))
  | 0, k, n, l, hn, hk, hl => by
    obtain ⟨k, rfl⟩ : ∃ q, k = q + 1 := ⟨k - 1, by omega⟩
    rw [f53_L0.eq_2, if_neg (by simp; omega)]
    simp
  | c + 1, k, n, l, hn, hk, hl => by
    obtain ⟨k, rfl⟩ : ∃ q, k = q + 1 := ⟨k - 1, by omega⟩
    rw [f53_L0.eq_2, if_pos (by simp; omega), jn_eq, f78_eq x n (by omega), some_bind, List.range'_succ, List.filter_cons]
    by_cases hb : x.toNat / 2 ^ n % 2 = 1
    · rw [if_pos (decide_eq_true hb), chk_pos (by omega), if_pos (decide_eq_true hb)]
      dsimp only
      rw [chk_pos (by omega), f53_L0_eq x K c k (n + 1) _ (by omega) (by omega) (by simp; omega)]
      simp
    · rw [if_neg (by simpa using hb), if_neg (by simpa using hb)]
      dsimp only
      rw [chk_pos (by omega), f53_L0_eq x K c k (n + 1) _ (by omega) (by omega) (by omega)]
theorem f53_eq (x : BitVec 16) : f53 x = some ((mems x).map fun i : Nat => (i : Int)) := by
  unfold f53
  rw [jn_eq, f53_L0_eq x _ 16 FUEL 0 [] rfl (by unfold FUEL; omega) (Nat.zero_le _), List.nil_append, mems, List.range_eq_range']
theorem mems_bsum (x : Nat) : ∀ c n, ((List.range' n c).filter fun i => decide (x / 2 ^ i % 2 = 1)).length = bsum x n c
  | 0, n => rfl
  | c + 1, n => by
    rw [List.range'_succ, List.filter_cons, bsum]
    have hb : x / 2 ^ n % 2 < 2 := Nat.mod_lt _ (by decide)
    split <;> rename_i h
    · have h : x / 2 ^ n % 2 = 1 := by simpa using h
      rw [List.length_cons, mems_bsum x c (n + 1), h]; omega
    · have h : ¬ x / 2 ^ n % 2 = 1 := by simpa using h
      rw [mems_bsum x c (n + 1)]; omega
theorem mems_len (x : BitVec 16) : (mems x).length = sz x := by
  unfold mems
  rw [List.range_eq_range', mems_bsum]
  rfl
theorem f24_eq (x : BitVec 16) : f24 x = some (sz x : Int) := by
  unfold f24
  rw [f53_eq, some_bind, List.length_map, mems_len]
theorem f74_eq (a b : BitVec 16) : ∃ c, f74 a b = some c ∧ (c = 0 ↔ a = b) ∧ (c < 0 ↔ key a < key b) := by
  unfold f74
  rw [f24_eq, f24_eq]
  by_cases h : a = b
  · subst h
    rw [if_pos (by simp)]
    exact ⟨0, rfl, by simp, by simp⟩
  · rw [if_neg (by simpa using h)]
    have hn : a.toNat ≠ b.toNat := fun e => h (BitVec.eq_of_toNat_eq e)
    have ha := a.isLt
    have hb := b.isLt
    rw [some_bind, some_bind]
    unfold key
    by_cases h1 : sz a < sz b
    · refine ⟨-1, ?_, ?_, ?_⟩
      · simp [optc, chk, h1]
      · simp [h]
      · simp; omega
    · by_cases h2 : sz a = sz b
      · by_cases h3 : a.toNat < b.toNat
        · exact ⟨-1, by simp [optc, chk, h2, h3], by simp [h], by simp; omega⟩
        · exact ⟨1, by simp [optc, chk, h2, h3], by simp [h], by simp; omega⟩
      · exact ⟨1, by simp [optc, chk, h1]; omega, by simp [h], by simp; omega⟩
theorem f45_eq (a b : Flt) : ∃ c, f45 a.1 a.2 b.1 b.2 = some c ∧ (c < 0 ↔ keyF a < keyF b) := by
  obtain ⟨c, h1, h2, h3⟩ := f74_eq a.1 b.1
  obtain ⟨d, h4, h5, h6⟩ := f74_eq a.2 b.2
  have k1 := key_lt a.1
  have k2 := key_lt a.2
  have k3 := key_lt b.1
  have k4 := key_lt b.2
  unfold f45 keyF
  rw [h1, h4, some_bind, some_bind]
  by_cases hc : c = 0
  · refine ⟨d, by simp [hc], ?_⟩
    rw [h2.1 hc, h6]; omega
  · refine ⟨c, by simp [hc], ?_⟩
    have : key a.1 ≠ key b.1 := fun e => hc (h2.2 (key_inj' e))
    rw [h3]; omega
theorem f43_lt (a b : Flt) : ∃ c, f43 a.1 a.2 b.1 b.2 = some c ∧ (c < 0 ↔ keyF a < keyF b) :=
  ⟨_, f43_eq' a b, by have := cmpF_lt a b; simpa using this⟩
theorem f16_eq (b a : Flt) : f16 b.1 b.2 a.1 a.2 = some (cov b a) := by
  unfold f16 f46 cov sub ftyS
  by_cases h : (a.1 &&& ~~~b.1) = 0#16
  · simp [h, optc_t]
  · have e : (a.1 &&& ~~~b.1 == 0#16) = false := by simpa using h
    simp [e, optc_f]
theorem f17_eq (b a : Flt) : f17 b.1 b.2 a.1 a.2 = some (cov b a) := by
  unfold f17 f47 f23 cov sub ftyS
  by_cases h : (a.1 &&& ~~~b.1) = 0#16
  · simp [h, optc_t]
  · have e : (a.1 &&& ~~~b.1 == 0#16) = false := by simpa using h
    simp [e, optc_f]
end Go.Abs
namespace Go.Abs
theorem and_hi (n : Nat) (h : n < 65536) : (n &&& 61440 = 0) ↔ n < 4096 := by
  have e : (n &&& 61440) >>> 12 = n / 4096 := by
    rw [Nat.shiftRight_and_distrib, Nat.shiftRight_eq_div_pow]
    show (n / 4096) &&& 15 = n / 4096
    rw [show (15 : Nat) = 2 ^ 4 - 1 from rfl, Nat.and_two_pow_sub_one_eq_mod]
    omega
  constructor
  · intro h0
    rw [h0] at e
    simp at e
    omega
  · intro hn
    apply Nat.eq_of_testBit_eq
    intro i
    rw [Nat.testBit_and, Nat.zero_testBit]
    by_cases hi : i < 12
    · have : Nat.testBit 61440 i = false := by
        rw [show (61440 : Nat) = 2 ^ 12 * 15 from rfl, Nat.testBit_two_pow_mul]
        simp; omega
      rw [this, Bool.and_false]
    · have : n.testBit i = false := Nat.testBit_lt_two_pow (Nat.lt_of_lt_of_le hn (Nat.pow_le_pow_right (n := 2) (by decide) (by omega : 12 ≤ i)))
      rw [this, Bool.false_and]
theorem outside_eq (x : BitVec 16) : ((x &&& (BitVec.ofInt 16 61440)) == (BitVec.ofInt 16 0)) = decide (x.toNat < 4096) := by
  have h := and_hi x.toNat x.isLt
  rw [Bool.eq_iff_iff, beq_iff_eq, decide_eq_true_eq, ← h]
  constructor
  · intro e
    have := congrArg BitVec.toNat e
    simpa using this
  · intro e
    apply BitVec.eq_of_toNat_eq
    simpa using e
/-- the error of a fault -/
def errF (a : Flt) : Int := if (ftyS a).toNat < 4096 then (if a.1 &&& a.2 = 0#16 then 0 else 1) else 7
theorem f42_eq (a : Flt) : f42 a.1 a.2 = some (errF a) := by
  have e : ((ftyS a &&& ~~~(BitVec.ofInt 16 4095)) == (BitVec.ofInt 16 0)) = decide ((ftyS a).toNat < 4096) := outside_eq (ftyS a)
  unfold f42 f46 errF
  rw [some_bind]
  change (if (!((ftyS a &&& ~~~(BitVec.ofInt 16 4095)) == (BitVec.ofInt 16 0))) = true then _ else _) = _
  rw [e]
  by_cases h : (ftyS a).toNat < 4096
  · rw [decide_eq_true h, if_neg (by simp), if_pos h]
    by_cases h2 : a.1 &&& a.2 = 0#16
    · rw [if_pos h2, if_neg (by simp [h2])]
    · rw [if_neg h2, if_pos (by simpa using h2)]
  · rw [decide_eq_false h, if_pos (by simp), if_neg h]
theorem f44_eq (a : Flt) : f44 a.1 a.2 = some (errF a) := by
  unfold f44 f23 errF
  rw [some_bind]
  change (if (decide ((ftyS a).toNat ≥ 4096)) = true then _ else _) = _
  by_cases h : (ftyS a).toNat < 4096
  · rw [if_neg (by simpa using h), if_pos h]
    by_cases h2 : a.1 &&& a.2 = 0#16
    · rw [if_pos h2, if_neg (by simp [h2])]
    · rw [if_neg h2, if_pos (by simpa using h2)]
  · rw [if_pos (by simpa using h), if_neg h]
/-- a fault that covers an earlier one, or is covered by it -/
def anyC (x : List Flt) (n : Nat) : Bool := (x.take n).any fun y => cov (x.getD n default) y || cov y (x.getD n default)
def scanF (x : List Flt) : Nat → Nat → Option Int
  | 0, _ => none
  | c + 1, n => if errF (x.getD n default) ≠ 0 then some (errF (x.getD n default)) else if anyC x n = true then some 5
    else if 0 < n ∧ ¬ keyF (x.getD (n - 1) default) < keyF (x.getD n default) then some 1 else scanF x c (n + 1)
def orE (e : Option Int) (K : Unit → Option Int) : Option Int := match e with
  | some e => some e
  | none => K ()
theorem f13_L1_eq (x : List Flt) (n : Nat) (K : Unit → Option Int) (hn : n < x.length) (hx : x.length ≤ 65536) : f13_L1 x n K FUEL 0 = if anyC x n = true then some 5 else K () := by
  have hl : (x.take n).length = n := by simp; omega
  refine any_up (f13_L1 x n K) (x.take n) default (fun y => cov (x.getD n default) y || cov y (x.getD n default)) (some 5) (K ()) (fun k m hm => ?_) (fun k => ?_) FUEL (by rw [hl]; exact fuel_lt (by omega))
  · rw [hl] at hm
    rw [f13_L1.eq_2, if_pos (by simp; omega), chk_pos (by omega), f16_eq, some_bind]
    cases cov (x.getD n default) ((x.take n).getD m default) with
    | true =>
      rw [show ((true == false)) = false from rfl, optc_f, Bool.true_or, Bool.true_or, if_pos rfl, if_pos rfl]
    | false =>
      rw [show ((false == false) = true) from rfl, optc_t, f16_eq, some_bind, chk_pos (by omega)]
  · rw [hl, f13_L1.eq_2, if_neg (by simp)]
theorem f13_L0_eq (x : List Flt) (K : Unit → Option Int) (hx : x.length ≤ 65536) : ∀ (c k n : Nat), n + c = x.length → c < k → f13_L0 x K k n = orE (scanF x c n) K
  | 0, k, n, hn, hk => by
    obtain ⟨k, rfl⟩ : ∃ q, k = q + 1 := ⟨k - 1, by omega⟩
    rw [f13_L0.eq_2, if_neg (by simp; omega)]
    rfl
  | c + 1, k, n, hn, hk => by
    obtain ⟨k, rfl⟩ : ∃ q, k = q + 1 := ⟨k - 1, by omega⟩
    have ih := f13_L0_eq x K hx c k (n + 1) (by omega) (by omega)
    rw [f13_L0.eq_2, if_pos (by simp; omega), chk_pos (by omega), f42_eq, some_bind]
    unfold scanF
    by_cases he : errF (x.getD n default) = 0
    · rw [if_neg (by rw [he]; decide), if_neg (fun h => h he), jn_eq, chk_pos (by omega), f13_L1_eq x n _ (by omega) hx]
      by_cases ha : anyC x n = true
      · rw [if_pos ha, if_pos ha]; rfl
      · rw [if_neg ha, if_neg ha]
        have hn1 : ((n : Int) - 1).toNat = n - 1 := by omega
        rw [hn1]
        by_cases h0 : 0 < n
        · have h0' : ((decide ((n : Int) > 0)) == true) = true := by simp; omega
          obtain ⟨r, h1, h2⟩ := f43_lt (x.getD (n - 1) default) (x.getD n default)
          rw [h0', optc_t, h1, some_bind, chk_pos (by intro; omega), chk_pos (by intro; omega), chk_pos (by omega), ih]
          by_cases hk2 : keyF (x.getD (n - 1) default) < keyF (x.getD n default)
          · rw [if_neg (by have := h2.2 hk2; simp; omega), if_neg (fun h => h.2 hk2)]
          · rw [if_pos (by have : ¬ r < 0 := fun h => hk2 (h2.1 h); simp; omega), if_pos ⟨h0, hk2⟩]; rfl
        · have h0' : ((decide ((n : Int) > 0)) == true) = false := by simp; omega
          rw [h0', optc_f, chk_pos (by intro h; cases h), chk_pos (by intro h; cases h), if_neg (by simp; omega), if_neg (by omega), chk_pos (by omega), ih]
    · rw [if_pos (by simpa using he), if_pos he]; rfl
/-- the error of a model -/
def validF (x : List Flt) : Int := if x.length = 0 then 9 else if x.length > 100 then 3 else (scanF x x.length 0).getD 0
theorem f13_eq (x : List Flt) : f13 x = some (validF x) := by
  unfold f13 validF
  by_cases h0 : x.length = 0
  · rw [if_pos (by simpa using h0), if_pos h0]
  · rw [if_neg (by simpa using h0), if_neg h0]
    by_cases h1 : x.length > 100
    · rw [if_pos (by simp; omega), if_pos h1]
    · rw [if_neg (by simp; omega), if_neg h1, jn_eq, f13_L0_eq x _ (by omega) x.length FUEL 0 (by omega) (fuel_lt (by omega))]
      cases scanF x x.length 0 <;> rfl
theorem f14_eq (x : List Flt) (h : x.length ≤ 65536) : f14 x = some x := by
  unfold f14
  rw [abc_eq, chk_pos (by omega)]
  · rfl
  · intro h0
    rw [List.eq_nil_of_length_eq_zero h0]
    rfl
end Go.Abs
namespace Go.Abs
theorem f49_eq (b a : Flt) : f49 b.1 b.2 a.1 a.2 = some (cov b a, a.1, a.2) := by
  unfold f49
  rw [f16_eq]
  rfl
theorem f75a_eq (x : List Flt) (a : Flt) (hx : x.length ≤ 65536) : ∃ i : Int, f75a x a.1 a.2 = some (i, a.1, a.2) ∧ (decide (i ≥ 0)) = tol x a := by
  unfold f75a tol
  rw [jn_eq]
  have := find_up (fun k n => f75a_L0 x (fun q => match q with | (w8, w9) => some ((-1 : Int), w8, w9)) k (n, a.1, a.2)) x default (fun b => cov b a) (fun n => some ((n : Int), a.1, a.2)) (some (-1, a.1, a.2))
    (fun k n hn => by
      dsimp only
      rw [f75a_L0.eq_2, if_pos (by simp; omega), f49_eq, some_bind, chk_pos (by omega)]
      cases cov (x.getD n default) a with
      | true => rw [if_pos rfl, if_pos rfl]
      | false => rw [if_neg (by simp), if_neg (by simp), chk_pos (by omega)])
    (fun k => by
      dsimp only
      rw [f75a_L0.eq_2, if_neg (by simp)]) x.length FUEL 0 (by omega) (fuel_lt (by omega))
  rcases this with ⟨m, _, _, _, h1, h2⟩ | ⟨h1, h2⟩
  · refine ⟨m, h1, ?_⟩
    rw [List.drop_zero] at h2
    rw [h2]; simp
  · refine ⟨-1, h1, ?_⟩
    rw [List.drop_zero] at h2
    rw [h2]; simp
theorem f18_eq (x : List Flt) (a : Flt) (hx : x.length ≤ 65536) : f18 x a.1 a.2 = some (tol x a) := by
  obtain ⟨i, h1, h2⟩ := f75a_eq x a hx
  unfold f18 f48a
  rw [h1, some_bind, some_bind, h2]
theorem f19_eq (x : List Flt) (a : Flt) (hx : x.length ≤ 65536) : f19 x a.1 a.2 = some (tol x a) := by
  unfold f19 tol
  rw [jn_eq]
  have := any_up (f19_L0 x a.1 a.2 fun _ => some false) x default (fun b => cov b a) (some true) (some false)
    (fun k n hn => by
      rw [f19_L0.eq_2, if_pos (by simp; omega), f17_eq, some_bind, chk_pos (by omega)]
      cases cov (x.getD n default) a with
      | true => rw [if_pos rfl, if_pos rfl]
      | false => rw [if_neg (by simp), if_neg (by simp), chk_pos (by omega)])
    (fun k => by rw [f19_L0.eq_2, if_neg (by simp)]) FUEL (fuel_lt (by omega))
  rw [this]
  split <;> rename_i h
  · rw [h]
  · have h : x.any (fun b => cov b a) = false := by simpa using h
    rw [h]
end Go.Abs
namespace Go.Abs
section
variable {α : Type} [DecidableEq α]
/-- what the loop holds: the first m of the list done, n3 places kept -/
def CptI (d : α) (x l : List α) (n3 m : Nat) : Prop := l.length = x.length ∧ 0 < m ∧ m ≤ x.length ∧ n3 < m ∧ 0 < n3 ∧ l.take n3 = dd (x.take m) ∧ ∀ j, m ≤ j + 1 → l.getD j d = x.getD j d
theorem take_succ_gD {α : Type} (x : List α) (n : Nat) (d : α) (h : n < x.length) : x.take (n + 1) = x.take n ++ [x.getD n d] := by
  rw [List.take_add_one]
  simp [List.getD_eq_getElem?_getD, h]
theorem ddT_last (d : α) (x : List α) (m : Nat) (h0 : 0 < m) (hm : m ≤ x.length) : (dd (x.take m)).getLast? = some (x.getD (m - 1) d) := by
  rw [dd_last]
  obtain ⟨k, rfl⟩ : ∃ k, m = k + 1 := ⟨m - 1, by omega⟩
  rw [take_succ_gD x k d (by omega)]
  simp
theorem ddT_succ (d : α) (x : List α) (m : Nat) (h0 : 0 < m) (hm : m < x.length) : dd (x.take (m + 1)) = if x.getD m d = x.getD (m - 1) d then dd (x.take m) else dd (x.take m) ++ [x.getD m d] := by
  rw [take_succ_gD x m d hm, dd_snoc]
  unfold ddS
  rw [ddT_last d x m h0 (by omega)]
  by_cases h : x.getD m d = x.getD (m - 1) d
  · rw [if_pos h, if_pos (by rw [h])]
  · rw [if_neg h, if_neg (by intro e; exact h (Option.some.inj e).symm)]
theorem cpt_in {β : Type} (d : α) (x : List α) (n2 : Nat) (L : Nat → Nat × Nat × List α → Option β) (R : Option β) (hn2 : n2 < x.length) (h2 : 0 < n2)
    (hs : ∀ k n3 n4 l, n2 + n4 < x.length → l.length = x.length → n3 < n2 + n4 → 0 < n4 →
      L (k + 1) (n3, n4, l) = if l.getD (n2 + n4) d = l.getD (n2 + (n4 - 1)) d then L k (n3, n4 + 1, l) else L k (n3 + 1, n4 + 1, l.set n3 (l.getD (n2 + n4) d)))
    (hK : ∀ k n3 n4 l, n2 + n4 = x.length → CptI d x l n3 x.length → L (k + 1) (n3, n4, l) = R) : ∀ c k n3 n4 l, n2 + n4 + c = x.length → 0 < n4 → c < k → CptI d x l n3 (n2 + n4) → L k (n3, n4, l) = R
  | 0, k, n3, n4, l, hc, h4, hk, hi => by
    obtain ⟨k, rfl⟩ : ∃ q, k = q + 1 := ⟨k - 1, by omega⟩
    exact hK k _ _ _ (by omega) (by rw [show x.length = n2 + n4 by omega]; exact hi)
  | c + 1, k, n3, n4, l, hc, h4, hk, hi => by
    obtain ⟨k, rfl⟩ : ∃ q, k = q + 1 := ⟨k - 1, by omega⟩
    obtain ⟨i1, i2, i3, i4, i5, i6, i7⟩ := hi
    rw [hs k n3 n4 l (by omega) i1 i4 h4]
    have e1 := i7 (n2 + n4) (by omega)
    have e2 := i7 (n2 + (n4 - 1)) (by omega)
    rw [e1, e2]
    have hd := ddT_succ d x (n2 + n4) (by omega) (by omega)
    rw [show n2 + n4 - 1 = n2 + (n4 - 1) by omega] at hd
    by_cases he : x.getD (n2 + n4) d = x.getD (n2 + (n4 - 1)) d
    · rw [if_pos he] at hd
      rw [if_pos he]
      exact cpt_in d x n2 L R hn2 h2 hs hK c k n3 (n4 + 1) l (by omega) (by omega) (by omega) ⟨i1, by omega, by omega, by omega, i5, by rw [i6, ← hd]; rfl, fun j hj => i7 j (by omega)⟩
    · rw [if_neg he] at hd
      rw [if_neg he]
      refine cpt_in d x n2 L R hn2 h2 hs hK c k (n3 + 1) (n4 + 1) _ (by omega) (by omega) (by omega) ⟨by simp [i1], by omega, by omega, by omega, by omega, ?_, fun j hj => ?_⟩
      · rw [show n2 + (n4 + 1) = n2 + n4 + 1 by omega, hd, ← i6, take_succ_gD _ n3 d (by simp; omega), List.take_set_of_le (Nat.le_refl _)]
        have : n3 < l.length := by omega
        simp [List.getD_eq_getElem?_getD, this]
      · have : n3 ≠ j := by omega
        rw [← i7 j (by omega)]
        simp [List.getD_eq_getElem?_getD, List.getElem?_set_ne this]
theorem ddT_of_ne (d : α) (x : List α) : ∀ n, n ≤ x.length → (∀ j, 0 < j → j < n → x.getD j d ≠ x.getD (j - 1) d) → dd (x.take n) = x.take n
  | 0, _, _ => by simp [dd]
  | n + 1, hn, h => by
    have ih := ddT_of_ne d x n (by omega) fun j h1 h2 => h j h1 (by omega)
    by_cases h0 : n = 0
    · subst h0
      rw [take_succ_gD x 0 d (by omega)]
      simp [dd, ddS]
    · rw [ddT_succ d x n (by omega) (by omega), if_neg (h n (by omega) (by omega)), ih, ← take_succ_gD x n d (by omega)]
/-- the outer loop: ahead of the first pair of equal neighbours -/
theorem cpt_out {β : Type} (d : α) (x : List α) (L : Nat → Nat → Option β) (I : Nat → Option β) (F : List α → Option β)
    (hs : ∀ k n, 0 < n → n < x.length → L (k + 1) n = if x.getD n d = x.getD (n - 1) d then I n else L k (n + 1))
    (hI : ∀ n, 0 < n → n < x.length → CptI d x x n (n + 1) → I n = F (dd x))
    (he : ∀ k, L (k + 1) x.length = F x) : ∀ c k n, n + c = x.length → 0 < n → c < k → (∀ j, 0 < j → j < n → x.getD j d ≠ x.getD (j - 1) d) → L k n = F (dd x)
  | 0, k, n, hc, h0, hk, hi => by
    obtain ⟨k, rfl⟩ : ∃ q, k = q + 1 := ⟨k - 1, by omega⟩
    obtain rfl : n = x.length := by omega
    rw [he]
    have := ddT_of_ne d x x.length (by omega) hi
    rw [List.take_of_length_le (by omega)] at this
    rw [this]
  | c + 1, k, n, hc, h0, hk, hi => by
    obtain ⟨k, rfl⟩ : ∃ q, k = q + 1 := ⟨k - 1, by omega⟩
    rw [hs k n h0 (by omega)]
    by_cases he1 : x.getD n d = x.getD (n - 1) d
    · rw [if_pos he1]
      have hd := ddT_of_ne d x n (by omega) hi
      have hs := ddT_succ d x n (by omega) (by omega)
      rw [if_pos he1, hd] at hs
      exact hI n h0 (by omega) ⟨rfl, by omega, by omega, by omega, h0, hs.symm, fun j _ => rfl⟩
    · rw [if_neg he1]
      refine cpt_out d x L I F hs hI he c k (n + 1) (by omega) (by omega) (by omega) fun j h1 h2 => ?_
      by_cases e : j = n
      · subst e; exact he1
      · exact hi j h1 (by omega)
/-- what is left at the end: the first n3 places -/
theorem cpt_left (d : α) (x l : List α) (n3 : Nat) (h : CptI d x l n3 x.length) (m : Nat) (z : α) : (l.take n3 ++ List.replicate m z).take n3 = dd x := by
  obtain ⟨i1, i2, i3, i4, i5, i6, i7⟩ := h
  rw [List.take_append_of_le_length (by simp; omega), List.take_take, Nat.min_self, i6, List.take_of_length_le (Nat.le_refl _)]
end
end Go.Abs
namespace Go.Abs
theorem f79_eq (x : List Flt) (hx : x.length ≤ 65536) : f79 x = some (isortK keyF x) := by
  unfold f79 sortO; rw [if_pos (by omega)]
theorem fltNe (a b : Flt) : (!((a.1 == b.1) && ((a.2 == b.2) && true))) = (a != b) := by
  rw [Bool.and_true]; rfl
theorem fltEq (a b : Flt) : ((a.1 == b.1) && ((a.2 == b.2) && true)) = (a == b) := by
  rw [Bool.and_true]; rfl
theorem f80_eq (x : List Flt) (hx : x.length ≤ 65536) : f80 x = some (dd x) := by
  unfold f80
  by_cases h : x.length < 2
  · rw [ifd_pos (by omega)]
    match x, h with
    | [], _ => rfl
    | [a], _ => rfl
    | a :: b :: l, h => simp at h; omega
  · rw [ifd_neg (by omega), jn_eq]
    refine cpt_out (default : Flt) x (f80_L0 x fun _ => some x)
      (fun n2 => f80_L1 x n2 (fun p =>
        chk (((p.1 : Nat) : Int) ≤ (((p.2).length : Nat) : Int)) <|
        chk (p.1 + ((p.2).length - p.1) ≤ (p.2).length ∧ 0 < ((p.2).length - p.1)) <|
        chk (((p.1 : Nat) : Int) ≤ ((((p.2.take p.1 ++ List.replicate ((p.2).length - p.1) ((BitVec.ofInt 16 0), (BitVec.ofInt 16 0)))).length : Nat) : Int)) <|
        chk (p.1 ≤ (p.2.take p.1 ++ List.replicate ((p.2).length - p.1) ((BitVec.ofInt 16 0), (BitVec.ofInt 16 0))).length) <|
        some ((p.2.take p.1 ++ List.replicate ((p.2).length - p.1) ((BitVec.ofInt 16 0), (BitVec.ofInt 16 0))).take p.1)) FUEL (n2, 1, x)) some ?_ ?_ ?_ (x.length - 1) FUEL 1 (by omega) (by omega) (fuel_lt (by omega)) (fun j h1 h2 => by omega)
    · intro k n h0 hn
      have ht : (((n : Nat) : Int) - (1 : Int)).toNat = n - 1 := by omega
      rw [f80_L0.eq_2, ifd_pos (by omega), chk_pos (by omega), chk_pos (by omega), chk_pos (by omega), chk_pos (by omega), chk_pos (by omega), ht, fltEq]
      by_cases he : x.getD n default = x.getD (n - 1) default
      · rw [if_pos he, if_pos (by rw [he]; simp), chk_pos (by omega), jn_eq]
      · rw [if_neg he, if_neg (by simpa using he), chk_pos (by omega)]
    · intro n h0 hn hi
      refine cpt_in (default : Flt) x n (f80_L1 x n _) (some (dd x)) hn h0 ?_ ?_ (x.length - n - 1) FUEL n 1 x (by omega) (by omega) (fuel_lt (by omega)) hi
      · intro k n3 n4 l h1 h2 h3 h4
        have ht : (((n4 : Nat) : Int) - (1 : Int)).toNat = n4 - 1 := by omega
        rw [f80_L1.eq_2, ifd_pos (by omega), jn_eq, chk_pos (by omega), chk_pos (by omega), chk_pos (by omega), chk_pos (by omega), chk_pos (by omega), ht, fltNe]
        by_cases he : l.getD (n + n4) default = l.getD (n + (n4 - 1)) default
        · rw [if_pos he, if_neg (by rw [he]; simp)]
          dsimp only
          rw [chk_pos (by omega)]
        · rw [if_neg he, if_pos (by simpa using he), chk_pos (by omega), chk_pos (by omega), chk_pos (by omega), chk_pos (by omega), chk_pos (by omega)]
          dsimp only
          rw [chk_pos (by omega)]
      · intro k n3 n4 l h1 hi
        have hi0 := hi
        obtain ⟨i1, i2, i3, i4, i5, i6, i7⟩ := hi
        rw [f80_L1.eq_2, ifd_neg (by omega)]
        dsimp only
        rw [chk_pos (by omega), chk_pos (by omega), chk_pos (by simp; omega), chk_pos (by simp; omega), cpt_left default x l n3 hi0]
    · intro k
      rw [f80_L0.eq_2, ifd_neg (by omega)]
theorem f81_eq (b a : Flt) : f81 b.1 b.2 a.1 a.2 = some (a != b && cov b a, a.1, a.2) := by
  unfold f81
  have h := fltNe a b
  rw [h, f16_eq]
  cases a != b <;> rfl
theorem f75_eq (x : List Flt) (a : Flt) (hx : x.length ≤ 65536) : ∃ i : Int, f75 x a.1 a.2 = some (i, a.1, a.2) ∧ (decide (i ≥ 0)) = x.any fun b => a != b && cov b a := by
  unfold f75
  rw [jn_eq]
  have := find_up (fun k n => f75_L0 x (fun q => match q with | (w8, w9) => some ((-1 : Int), w8, w9)) k (n, a.1, a.2)) x default (fun b => a != b && cov b a) (fun n => some ((n : Int), a.1, a.2)) (some (-1, a.1, a.2))
    (fun k n hn => by
      dsimp only
      rw [f75_L0.eq_2, if_pos (by simp; omega), f81_eq, some_bind, chk_pos (by omega)]
      cases a != x.getD n default && cov (x.getD n default) a with
      | true => rw [if_pos rfl, if_pos rfl]
      | false => rw [if_neg (by simp), if_neg (by simp), chk_pos (by omega)])
    (fun k => by
      dsimp only
      rw [f75_L0.eq_2, if_neg (by simp)]) x.length FUEL 0 (by omega) (fuel_lt (by omega))
  rcases this with ⟨m, _, _, _, h1, h2⟩ | ⟨h1, h2⟩
  · refine ⟨m, h1, ?_⟩
    rw [List.drop_zero] at h2
    rw [h2]; simp
  · refine ⟨-1, h1, ?_⟩
    rw [List.drop_zero] at h2
    rw [h2]; simp
theorem f48_eq (x : List Flt) (a : Flt) (hx : x.length ≤ 65536) : f48 x a.1 a.2 = some (x.any fun b => a != b && cov b a, a.1, a.2) := by
  obtain ⟨i, h1, h2⟩ := f75_eq x a hx
  unfold f48
  rw [h1, some_bind, h2]
theorem filter_fold {α : Type} (p : α → Bool) (l : List α) : ∀ out : List α, l.foldl (fun out a => if p a then out ++ [a] else out) out = out ++ l.filter p := by
  induction l with
  | nil => intro out; simp
  | cons a l ih =>
    intro out
    rw [List.foldl_cons, ih, List.filter_cons]
    cases p a <;> simp
/-- normal's answer -/
def limF (l : List Flt) : Int × List Flt := if l.length > 100 then (3, []) else (0, l)
theorem f54_L0_eq (r : List Flt) (K : List Flt → Option (Int × List Flt)) (hr : r.length ≤ 65536) : f54_L0 r K FUEL (0, []) = K (r.filter (undF r)) := by
  rw [fold_up (f54_L0 r K) r default (fun n l => l.length ≤ n) (fun out a => if undF r a then out ++ [a] else out) K ?_ ?_ ?_ r.length FUEL 0 [] (by omega) (fuel_lt (by omega)) (Nat.le_refl _)]
  · rw [List.drop_zero, filter_fold, List.nil_append]
  · intro k n s hn hs
    rw [f54_L0.eq_2, ifd_pos (by omega), jn_eq, chk_pos (by omega), chk_pos (by omega), f48_eq _ _ (by omega), some_bind]
    cases h : undF r (r.getD n default) with
    | true =>
      have h' : (r.any fun b => r.getD n default != b && cov b (r.getD n default)) = false := by unfold undF at h; simpa using h
      rw [h', if_pos (by rfl), chk_pos (by omega)]
      dsimp only
      rw [chk_pos (by omega), if_pos rfl]
    | false =>
      have h' : (r.any fun b => r.getD n default != b && cov b (r.getD n default)) = true := by
        unfold undF at h
        cases h2 : (r.any fun b => r.getD n default != b && cov b (r.getD n default)) with
        | true => rfl
        | false => rw [h2] at h; cases h
      rw [h', if_neg (by simp)]
      dsimp only
      rw [chk_pos (by omega), if_neg (by simp)]
  · intro n s hn hs
    split
    · simp; omega
    · omega
  · intro k s hs
    rw [f54_L0.eq_2, ifd_neg (by omega)]
theorem f54_eq (x : List Flt) (hx : x.length ≤ 65536) : f54 x = some (limF (normP x)) := by
  have hl := srtF_len x
  have hi := (isortK_perm (k := keyF) x).length_eq
  unfold f54
  rw [f14_eq x hx, some_bind, f79_eq x hx, some_bind, f80_eq _ (by omega), some_bind, jn_eq]
  refine (f54_L0_eq (srtF x) _ (by omega)).trans ?_
  change (if decide (((normP x).length : Int) > 100) = true then _ else _) = _
  unfold limF
  by_cases h : (normP x).length > 100
  · rw [ifd_pos (by omega), if_pos h]
  · rw [ifd_neg (by omega), if_neg h]
    rfl
/-! ### the reference -/
theorem f22_L0_eq (x y : List Flt) (K : Unit → Option Bool) (hx : x.length ≤ 65536) (hxy : x.length = y.length) : ∀ c k n, n + c = x.length → c < k → f22_L0 x y K k n = if x.drop n = y.drop n then K () else some false
  | 0, k, n, hn, hk => by
    obtain ⟨k, rfl⟩ : ∃ q, k = q + 1 := ⟨k - 1, by omega⟩
    rw [f22_L0.eq_2, ifd_neg (by omega), List.drop_eq_nil_of_le (by omega), List.drop_eq_nil_of_le (by omega), if_pos rfl]
  | c + 1, k, n, hn, hk => by
    obtain ⟨k, rfl⟩ : ∃ q, k = q + 1 := ⟨k - 1, by omega⟩
    have ih := f22_L0_eq x y K hx hxy c k (n + 1) (by omega) (by omega)
    rw [f22_L0.eq_2, ifd_pos (by omega), chk_pos (by omega), chk_pos (by omega), fltNe, getD_drop x n default (by omega), getD_drop y n default (by omega)]
    by_cases h : x.getD n default = y.getD n default
    · rw [if_neg (by rw [h]; simp), chk_pos (by omega), ih, h]
      simp
    · rw [if_pos (by simpa using h), if_neg]
      intro e
      exact h (List.cons.inj e).1
theorem f22_eq (x y : List Flt) (hx : x.length ≤ 65536) : f22 x y = some (decide (x = y)) := by
  unfold f22
  by_cases h : x.length = y.length
  · rw [if_neg (by simp; omega), jn_eq, f22_L0_eq x y _ hx h x.length FUEL 0 (by omega) (fuel_lt (by omega)), List.drop_zero, List.drop_zero]
    by_cases e : x = y
    · rw [if_pos e, decide_eq_true e]
    · rw [if_neg e, decide_eq_false e]
  · rw [if_pos (by simp; omega), decide_eq_false (fun e => h (by rw [e]))]
/-- the reference keeps the first one of some that are equal, and what no other one covers -/
def keepR (x : List Flt) (n : Nat) : Bool := !((List.range x.length).any fun k => cov (x.getD k default) (x.getD n default) && (x.getD k default != x.getD n default || decide (k < n)))
theorem f55_L1_eq (x : List Flt) (n2 : Nat) (K : Bool → Option (List Flt)) (hx : x.length ≤ 65536) (hn : n2 < x.length) : ∀ c k n b, n + c = x.length → c < k →
    f55_L1 x n2 K k (b, n) = K (b && !((List.range' n c).any fun k => cov (x.getD k default) (x.getD n2 default) && (x.getD k default != x.getD n2 default || decide (k < n2))))
  | 0, k, n, b, hc, hk => by
    obtain ⟨k, rfl⟩ : ∃ q, k = q + 1 := ⟨k - 1, by omega⟩
    rw [f55_L1.eq_2, ifd_neg (by omega)]
    simp
  | c + 1, k, n, b, hc, hk => by
    obtain ⟨k, rfl⟩ : ∃ q, k = q + 1 := ⟨k - 1, by omega⟩
    have ih := fun b => f55_L1_eq x n2 K hx hn c k (n + 1) b (by omega) (by omega)
    rw [f55_L1.eq_2, ifd_pos (by omega), jn_eq, f17_eq, some_bind, fltNe, chk_pos (by omega), chk_pos (by omega), chk_pos (by intro; omega), chk_pos (by intro; omega), chk_pos (by
      intro _ h2 h3
      rw [h2, h3]
      rfl)]
    dsimp only
    rw [List.range'_succ, List.any_cons]
    have hd : decide (((n : Nat) : Int) < ((n2 : Nat) : Int)) = decide (n < n2) := by
      rw [Bool.eq_iff_iff, decide_eq_true_eq, decide_eq_true_eq]; omega
    rw [hd]
    cases h : cov (x.getD n default) (x.getD n2 default) && (x.getD n default != x.getD n2 default || decide (n < n2)) with
    | true => rw [if_pos rfl, chk_pos (by omega), ih]; simp
    | false => rw [if_neg (by simp), chk_pos (by omega), ih]; simp
theorem f55_L2_eq (x : List Flt) (n2 : Nat) (K : Nat × List Flt → Option (List Flt)) (l : List Flt) (hl : l.length ≤ 65536) (hn : n2 < x.length) (hx : x.length ≤ 65536) : ∀ c k n, n + c = l.length → c < k → (∀ j, j < n → keyF (l.getD j default) < keyF (x.getD n2 default)) →
    ∃ m, m ≤ l.length ∧ f55_L2 x n2 K k (n, l) = K (m, l) ∧ (∀ j, j < m → keyF (l.getD j default) < keyF (x.getD n2 default)) ∧ (m < l.length → ¬ keyF (l.getD m default) < keyF (x.getD n2 default))
  | 0, k, n, hc, hk, hj => by
    obtain ⟨k, rfl⟩ : ∃ q, k = q + 1 := ⟨k - 1, by omega⟩
    refine ⟨n, by omega, ?_, hj, fun h => by omega⟩
    rw [f55_L2.eq_2]
    have h0 : (decide (((n : Nat) : Int) < (((l).length : Nat) : Int))) = false := by simp; omega
    rw [h0]
    rfl
  | c + 1, k, n, hc, hk, hj => by
    obtain ⟨k, rfl⟩ : ∃ q, k = q + 1 := ⟨k - 1, by omega⟩
    have h0 : (decide (((n : Nat) : Int) < (((l).length : Nat) : Int))) = true := by simp; omega
    obtain ⟨r, h1, h2⟩ := f45_eq (l.getD n default) (x.getD n2 default)
    rw [f55_L2.eq_2, h0, show ((true == true) = true) from rfl, optc_t, h1, some_bind, chk_pos (by intro; omega), chk_pos (by intro; omega), chk_pos (by intro; omega)]
    by_cases hk2 : keyF (l.getD n default) < keyF (x.getD n2 default)
    · have := h2.2 hk2
      rw [if_pos (by simp; omega), chk_pos (by omega)]
      exact f55_L2_eq x n2 K l hl hn hx c k (n + 1) (by omega) (by omega) fun j h => by
        by_cases e : j = n
        · subst e; exact hk2
        · exact hj j (by omega)
    · have : ¬ r < 0 := fun h => hk2 (h2.1 h)
      rw [if_neg (by simp; omega)]
      exact ⟨n, by omega, rfl, hj, fun _ => hk2⟩
theorem keepR_iff (x : List Flt) (n : Nat) (hn : n < x.length) : keepR x n = true ↔ (∀ b, b ∈ x → x.getD n default ≠ b → cov b (x.getD n default) = false) ∧ ∀ k, k < n → x.getD k default ≠ x.getD n default := by
  unfold keepR
  rw [Bool.not_eq_true', List.any_eq_false]
  constructor
  · intro h
    refine ⟨fun b hb hne => ?_, fun k hk e => ?_⟩
    · obtain ⟨j, hj, rfl⟩ := List.getElem_of_mem hb
      have := h j (List.mem_range.2 hj)
      have e : x.getD j default = x[j] := by simp [List.getD_eq_getElem?_getD, hj]
      rw [e] at this
      have h2 : (x[j] != x.getD n default) = true := by simp; exact fun h => hne h.symm
      rw [h2] at this
      simpa using this
    · have := h k (List.mem_range.2 (by omega))
      rw [e, cov_refl, decide_eq_true hk] at this
      simp at this
  · rintro ⟨h1, h2⟩ k hk
    rw [List.mem_range] at hk
    have hmem : x.getD k default ∈ x := by
      rw [List.getD_eq_getElem?_getD, List.getElem?_eq_getElem hk]; exact List.getElem_mem hk
    by_cases e : x.getD n default = x.getD k default
    · have : ¬ k < n := fun h => h2 k h e.symm
      rw [← e, decide_eq_false this]
      simp
    · rw [h1 _ hmem e]; simp
/-- the reference's list, when n places are done -/
def InsI (x : List Flt) (n : Nat) (out : List Flt) : Prop := out.length ≤ n ∧ out.Pairwise (fun a b => keyF a < keyF b) ∧ ∀ a, a ∈ out ↔ ∃ j, j < n ∧ x.getD j default = a ∧ keepR x j = true
theorem f55_L0_eq (x : List Flt) (K : List Flt → Option (List Flt)) (hx : x.length ≤ 65536) : ∀ c k n out, n + c = x.length → c < k → InsI x n out → ∃ out', InsI x x.length out' ∧ f55_L0 x K k (n, out) = K out'
  | 0, k, n, out, hc, hk, hi => by
    obtain ⟨k, rfl⟩ : ∃ q, k = q + 1 := ⟨k - 1, by omega⟩
    refine ⟨out, by rw [show x.length = n by omega]; exact hi, ?_⟩
    rw [f55_L0.eq_2, ifd_neg (by omega)]
  | c + 1, k, n, out, hc, hk, hi => by
    obtain ⟨k, rfl⟩ : ∃ q, k = q + 1 := ⟨k - 1, by omega⟩
    obtain ⟨i1, i2, i3⟩ := hi
    rw [f55_L0.eq_2, ifd_pos (by omega), jn_eq, jn_eq, f55_L1_eq x n _ hx (by omega) x.length FUEL 0 true (by omega) (fuel_lt (by omega)), Bool.true_and, ← List.range_eq_range']
    change ∃ out', _ ∧ (if (!(keepR x n)) = true then _ else _) = _
    cases hkp : keepR x n with
    | false =>
      rw [if_pos (show (!false) = true from rfl)]
      dsimp only
      rw [chk_pos (by omega)]
      refine f55_L0_eq x K hx c k (n + 1) out (by omega) (by omega) ⟨by omega, i2, fun a => (i3 a).trans ?_⟩
      constructor
      · rintro ⟨j, h1, h2⟩; exact ⟨j, by omega, h2⟩
      · rintro ⟨j, h1, h2, h3⟩
        have : j ≠ n := by rintro rfl; rw [hkp] at h3; cases h3
        exact ⟨j, by omega, h2, h3⟩
    | true =>
      rw [if_neg (by simp), jn_eq]
      obtain ⟨m, m1, m2, m3, m4⟩ := f55_L2_eq x n (fun p =>
        chk (((p.1 : Nat) : Int) ≤ (((p.2).length : Nat) : Int)) <|
        chk ((0 + p.1) * 4 ≤ 140737488355328) <|
        chk (((n : Nat) : Int) < (((x).length : Nat) : Int)) <|
        chk ((((p.2.take p.1)).length + 1) * 4 ≤ 140737488355328) <|
        chk (((p.1 : Nat) : Int) ≤ (((p.2).length : Nat) : Int)) <|
        chk (((((p.2.take p.1) ++ [((x.getD n (default : BitVec 16 × BitVec 16)).1, (x.getD n (default : BitVec 16 × BitVec 16)).2)])).length + ((p.2).length - p.1)) * 4 ≤ 140737488355328) <|
        (fun (l9 : List (BitVec 16 × BitVec 16)) =>
          chk ((((n : Nat) : Int) + (1 : Int)) ≤ 9223372036854775807) <|
          (f55_L0 x K k) ((n + 1), l9)) (((p.2.take p.1) ++ [((x.getD n (default : BitVec 16 × BitVec 16)).1, (x.getD n (default : BitVec 16 × BitVec 16)).2)]) ++ (p.2.drop p.1))) out (by omega) (by omega) hx out.length FUEL 0 (by omega) (fuel_lt (by omega)) (fun j h => by omega)
      have hnew : x.getD n default ∉ out := by
        intro h
        obtain ⟨j, h1, h2, h3⟩ := (i3 _).1 h
        exact ((keepR_iff x n (by omega)).1 hkp).2 j h1 h2
      have hs := strict_insert (k := keyF) (fun _ _ => keyF_inj) out (x.getD n default) default m m1 i2 m3 m4 hnew
      have hlen : (out.take m).length ≤ n := by simp; omega
      obtain ⟨out', h1, h2⟩ := f55_L0_eq x K hx c k (n + 1) (out.take m ++ x.getD n default :: out.drop m) (by omega) (by omega) ⟨by simp; omega, hs, fun a => by
        rw [mem_insert_at, i3]
        constructor
        · rintro (rfl | ⟨j, h1, h2⟩)
          · exact ⟨n, by omega, rfl, hkp⟩
          · exact ⟨j, by omega, h2⟩
        · rintro ⟨j, h1, h2, h3⟩
          by_cases e : j = n
          · subst e; exact .inl h2.symm
          · exact .inr ⟨j, by omega, h2, h3⟩⟩
      refine ⟨out', h1, ?_⟩
      refine m2.trans ?_
      dsimp only
      rw [chk_pos (by omega), chk_pos (by omega), chk_pos (by omega), chk_pos (by omega), chk_pos (by omega), chk_pos (by simp; omega), chk_pos (by omega), ← h2]
      rw [List.append_assoc]
      rfl
theorem f55_eq (x : List Flt) (hx : x.length ≤ 65536) : f55 x = some (normP x) := by
  unfold f55
  rw [jn_eq]
  obtain ⟨out', ⟨i1, i2, i3⟩, h2⟩ := f55_L0_eq x (fun l => some l) hx x.length FUEL 0 [] (by omega) (fuel_lt (by omega)) ⟨Nat.le_refl _, .nil, fun a => by simp⟩
  refine h2.trans ?_
  congr 1
  refine strict_uniq (k := keyF) (fun _ _ => keyF_inj) _ _ (fun a => ?_) i2 (normP_strict x)
  rw [i3, mem_normP]
  constructor
  · rintro ⟨j, h1, rfl, h3⟩
    refine ⟨?_, ((keepR_iff x j h1).1 h3).1⟩
    rw [List.getD_eq_getElem?_getD, List.getElem?_eq_getElem h1]; exact List.getElem_mem h1
  · rintro ⟨h1, h2⟩
    -- the first place of a
    have hex : ∃ j, j < x.length ∧ x.getD j default = a := by
      obtain ⟨j, hj, rfl⟩ := List.getElem_of_mem h1
      exact ⟨j, hj, by simp [List.getD_eq_getElem?_getD, hj]⟩
    have hmin : ∀ n, (∃ j, j < n ∧ j < x.length ∧ x.getD j default = a) → ∃ j, j < x.length ∧ x.getD j default = a ∧ ∀ k, k < j → x.getD k default ≠ a := by
      intro n
      induction n with
      | zero => rintro ⟨j, h, _⟩; omega
      | succ n ih =>
        intro h
        by_cases hb : ∃ j, j < n ∧ j < x.length ∧ x.getD j default = a
        · exact ih hb
        · obtain ⟨j, j1, j2, j3⟩ := h
          refine ⟨j, j2, j3, fun k hk e => hb ⟨k, by omega, by omega, e⟩⟩
    obtain ⟨j, j1, j2⟩ := hex
    obtain ⟨j, j1, j2, j3⟩ := hmin (j + 1) ⟨j, by omega, j1, j2⟩
    exact ⟨j, j1, j2, (keepR_iff x j j1).2 ⟨by rw [j2]; exact h2, by rw [j2]; exact j3⟩⟩
/-! ### Normalize -/
def errs (x : List Flt) : Option Int := (x.find? fun a => errF a != 0).map errF
def nrmF (x : List Flt) : Int × List Flt := if x.length = 0 then (9, []) else match errs x with
  | some e => (e, [])
  | none => limF (normP x)
theorem f25_L0_eq (x : List Flt) (K : Unit → Option (Int × List Flt)) (hx : x.length ≤ 65536) : ∀ c k n, n + c = x.length → c < k → f25_L0 x K k n = match errs (x.drop n) with | some e => some (e, []) | none => K ()
  | 0, k, n, hc, hk => by
    obtain ⟨k, rfl⟩ : ∃ q, k = q + 1 := ⟨k - 1, by omega⟩
    rw [f25_L0.eq_2, ifd_neg (by omega), List.drop_eq_nil_of_le (by omega)]
    rfl
  | c + 1, k, n, hc, hk => by
    obtain ⟨k, rfl⟩ : ∃ q, k = q + 1 := ⟨k - 1, by omega⟩
    rw [f25_L0.eq_2, ifd_pos (by omega), chk_pos (by omega), f42_eq, some_bind, getD_drop x n default (by omega)]
    unfold errs
    rw [List.find?_cons]
    by_cases h : errF (x.getD n default) = 0
    · rw [if_neg (by simpa using h), chk_pos (by omega), f25_L0_eq x K hx c k (n + 1) (by omega) (by omega)]
      have : (errF (x.getD n default) != 0) = false := by simpa using h
      rw [this]
      rfl
    · have : (errF (x.getD n default) != 0) = true := by simpa using h
      rw [if_pos this, this]
      rfl
theorem f26_L0_eq (x : List Flt) (K : Unit → Option (List Flt × Int)) (hx : x.length ≤ 65536) : ∀ c k n, n + c = x.length → c < k → f26_L0 x K k n = match errs (x.drop n) with | some e => some ([], e) | none => K ()
  | 0, k, n, hc, hk => by
    obtain ⟨k, rfl⟩ : ∃ q, k = q + 1 := ⟨k - 1, by omega⟩
    rw [f26_L0.eq_2, ifd_neg (by omega), List.drop_eq_nil_of_le (by omega)]
    rfl
  | c + 1, k, n, hc, hk => by
    obtain ⟨k, rfl⟩ : ∃ q, k = q + 1 := ⟨k - 1, by omega⟩
    rw [f26_L0.eq_2, ifd_pos (by omega), f44_eq, some_bind, chk_pos (by omega), getD_drop x n default (by omega)]
    unfold errs
    rw [List.find?_cons]
    by_cases h : errF (x.getD n default) = 0
    · rw [if_neg (by simpa using h), chk_pos (by omega), f26_L0_eq x K hx c k (n + 1) (by omega) (by omega)]
      have : (errF (x.getD n default) != 0) = false := by simpa using h
      rw [this]
      rfl
    · have : (errF (x.getD n default) != 0) = true := by simpa using h
      rw [if_pos this, this]
      rfl
theorem f52_eq (x : List Flt) : f52 x = some ((limF x).2, (limF x).1) := by
  unfold f52 limF
  by_cases h : x.length > 100
  · rw [ifd_pos (by omega), if_pos h]
  · rw [ifd_neg (by omega), if_neg h]
theorem f25_eq (x : List Flt) (hx : x.length ≤ 65536) : f25 x = some (nrmF x) := by
  unfold f25 nrmF
  by_cases h0 : x.length = 0
  · rw [if_pos (by simpa using h0), if_pos h0]
  · rw [if_neg (by simpa using h0), if_neg h0, jn_eq, f25_L0_eq x _ hx x.length FUEL 0 (by omega) (fuel_lt (by omega)), List.drop_zero]
    cases errs x with
    | some e => rfl
    | none =>
      dsimp only
      rw [f54_eq x hx]
      rfl
theorem f26_eq (x : List Flt) (hx : x.length ≤ 65536) : f26 x = some ((nrmF x).2, (nrmF x).1) := by
  unfold f26 nrmF
  by_cases h0 : x.length = 0
  · rw [if_pos (by simpa using h0), if_pos h0]
  · rw [if_neg (by simpa using h0), if_neg h0, jn_eq, f26_L0_eq x _ hx x.length FUEL 0 (by omega) (fuel_lt (by omega)), List.drop_zero]
    cases errs x with
    | some e => rfl
    | none =>
      dsimp only
      rw [f55_eq x hx, some_bind, f52_eq]
      rfl
end Go.Abs
namespace Go.Abs
def mF (a : Flt) : Nat := sz a.1 + sz (ftyS a)
theorem sz_le (x : BitVec 16) : sz x ≤ 16 := bsum_le x.toNat 16 0
theorem mF_le (a : Flt) : mF a ≤ 32 := by
  have := sz_le a.1
  have := sz_le (ftyS a)
  unfold mF; omega
theorem cov_mF {a b : Flt} (ha : disj a) (hb : disj b) (h : cov b a = true) (hne : a ≠ b) : mF a < mF b := by
  have h0 := h
  unfold cov at h
  rw [Bool.and_eq_true] at h
  have h1 := sub_sz h.1
  have h2 := sub_sz h.2
  unfold mF
  by_cases e : sz a.1 = sz b.1 ∧ sz (ftyS a) = sz (ftyS b)
  · refine absurd (cov_antisymm hb ha h0 ?_).symm hne
    unfold cov
    rw [h1.2 e.1, h2.2 e.2, sub_refl, sub_refl]; rfl
  · omega
theorem norm_above (l : List Flt) (hd : ∀ a, a ∈ l → disj a) : ∀ n a, 32 - mF a ≤ n → a ∈ l → ∃ b, b ∈ normP l ∧ cov b a = true := by
  intro n
  induction n with
  | zero =>
    intro a hn ha
    refine ⟨a, (mem_normP l a).2 ⟨ha, fun b hb hne => ?_⟩, cov_refl a⟩
    cases h : cov b a with
    | false => rfl
    | true =>
      have := cov_mF (hd a ha) (hd b hb) h hne
      have := mF_le b
      omega
  | succ n ih =>
    intro a hn ha
    by_cases h : ∃ b, b ∈ l ∧ a ≠ b ∧ cov b a = true
    · obtain ⟨b, h1, h2, h3⟩ := h
      have := cov_mF (hd a ha) (hd b h1) h3 h2
      have := mF_le b
      obtain ⟨c, h4, h5⟩ := ih b (by omega) h1
      exact ⟨c, h4, cov_trans h5 h3⟩
    · refine ⟨a, (mem_normP l a).2 ⟨ha, fun b hb hne => ?_⟩, cov_refl a⟩
      cases h' : cov b a with
      | false => rfl
      | true => exact absurd ⟨b, hb, hne, h'⟩ h
theorem tol_iff {l : List Flt} {a : Flt} : tol l a = true ↔ ∃ b, b ∈ l ∧ cov b a = true := List.any_eq_true
theorem tol_norm (l : List Flt) (hd : ∀ a, a ∈ l → disj a) (a : Flt) : tol (normP l) a = tol l a := by
  rw [Bool.eq_iff_iff, tol_iff, tol_iff]
  constructor
  · rintro ⟨b, h1, h2⟩; exact ⟨b, ((mem_normP l b).1 h1).1, h2⟩
  · rintro ⟨b, h1, h2⟩
    obtain ⟨c, h3, h4⟩ := norm_above l hd _ b (Nat.le_refl _) h1
    exact ⟨c, h3, cov_trans h4 h2⟩
theorem norm_ne {l : List Flt} (hd : ∀ a, a ∈ l → disj a) (h : l ≠ []) : normP l ≠ [] := by
  cases l with
  | nil => exact absurd rfl h
  | cons a l =>
    obtain ⟨b, hb, _⟩ := norm_above (a :: l) hd _ a (Nat.le_refl _) (List.mem_cons_self ..)
    intro e; rw [e] at hb; cases hb
theorem errF_zero {a : Flt} : errF a = 0 ↔ (ftyS a).toNat < 4096 ∧ disj a := by
  unfold errF disj
  by_cases h : (ftyS a).toNat < 4096
  · rw [if_pos h]
    by_cases h2 : a.1 &&& a.2 = 0#16
    · rw [if_pos h2]; simp [h, h2]
    · rw [if_neg h2]; simp [h2]
  · rw [if_neg h]; simp [h]
theorem errs_none {x : List Flt} : errs x = none ↔ ∀ a, a ∈ x → errF a = 0 := by
  unfold errs
  rw [Option.map_eq_none_iff, List.find?_eq_none]
  constructor
  · intro h a ha; simpa using h a ha
  · intro h a ha; simpa using h a ha
theorem errs_some_ne {x : List Flt} {e : Int} (h : errs x = some e) : e ≠ 0 := by
  unfold errs at h
  rw [Option.map_eq_some_iff] at h
  obtain ⟨a, h1, rfl⟩ := h
  have := List.find?_some h1
  simpa using this
/-- no errors, in order, none covered by another one -/
def okM (x : List Flt) : Prop := (∀ a, a ∈ x → errF a = 0) ∧ x.Pairwise (fun a b => keyF a < keyF b) ∧ x.Pairwise fun a b => cov a b = false ∧ cov b a = false
theorem scanF_ok (x : List Flt) (h : okM x) : ∀ c n, n + c = x.length → scanF x c n = none
  | 0, n, hn => rfl
  | c + 1, n, hn => by
    obtain ⟨h1, h2, h3⟩ := h
    have hlt : n < x.length := by omega
    have en : x.getD n default = x[n] := by simp [List.getD_eq_getElem?_getD, hlt]
    unfold scanF
    rw [if_neg (fun e => e (h1 _ (by rw [en]; exact List.getElem_mem hlt))), if_neg, if_neg, scanF_ok x ⟨h1, h2, h3⟩ c (n + 1) (by omega)]
    · rintro ⟨h0, hk⟩
      have hl2 : n - 1 < x.length := by omega
      have e2 : x.getD (n - 1) default = x[n - 1] := by simp [List.getD_eq_getElem?_getD, hl2]
      rw [en, e2] at hk
      exact hk (List.pairwise_iff_getElem.1 h2 (n - 1) n hl2 hlt (by omega))
    · intro e
      unfold anyC at e
      rw [List.any_eq_true] at e
      obtain ⟨y, hy, hc⟩ := e
      obtain ⟨j, hj, rfl⟩ := List.getElem_of_mem hy
      have hj' : j < n := by simp at hj; omega
      have hjl : j < x.length := by omega
      rw [List.getElem_take, en] at hc
      have := List.pairwise_iff_getElem.1 h3 j n hjl hlt hj'
      rw [this.1, this.2] at hc
      cases hc
theorem valid_ok (x : List Flt) (h : okM x) (h0 : x ≠ []) (hl : x.length ≤ 100) : validF x = 0 := by
  unfold validF
  rw [if_neg (fun e => h0 (List.eq_nil_of_length_eq_zero e)), if_neg (by omega), scanF_ok x h x.length 0 (by omega)]
  rfl
theorem normP_ok (l : List Flt) (h : ∀ a, a ∈ l → errF a = 0) : okM (normP l) := by
  refine ⟨fun a ha => h a ((mem_normP l a).1 ha).1, normP_strict l, ?_⟩
  rw [List.pairwise_iff_getElem]
  intro i j hi hj hij
  have hs := List.pairwise_iff_getElem.1 (normP_strict l) i j hi hj hij
  have hne : (normP l)[i] ≠ (normP l)[j] := fun e => by rw [e] at hs; omega
  have a1 := (mem_normP l _).1 (List.getElem_mem hi)
  have a2 := (mem_normP l _).1 (List.getElem_mem hj)
  exact ⟨a2.2 _ a1.1 hne.symm, a1.2 _ a2.1 hne⟩
end Go.Abs
namespace Go.Abs
theorem f12_true : f12 = some true := by kernel_rfl
end Go.Abs
namespace Go.Abs
theorem f6_true (x : List Flt) (a1 a2 : BitVec 16) : f6 x a1 a2 = some true := by
  unfold f6
  rw [f12_true, some_bind, some_bind]
  by_cases h : x.length > 40
  · rw [if_pos (by simp; omega)]
  · rw [if_neg (by simp; omega), f14_eq x (by omega), some_bind, f25_eq x (by omega), some_bind, f26_eq x (by omega), some_bind]
    dsimp only
    have hne : ((nrmF x).1 != (nrmF x).1) = false := by simp
    have hnl := normP_len x
    have hl2 : (nrmF x).2.length ≤ 65536 := by
      unfold nrmF
      split
      · exact Nat.zero_le _
      · split
        · exact Nat.zero_le _
        · unfold limF; split
          · exact Nat.zero_le _
          · exact Nat.le_trans hnl (by omega)
    rw [hne, show ((false == false) = true) from rfl, optc_t, f22_eq _ _ hl2, some_bind, decide_eq_true rfl]
    by_cases h0 : (nrmF x).1 = 0
    · rw [if_neg (by simp [h0]), f13_eq, some_bind]
      unfold nrmF at h0 ⊢
      by_cases hx : x.length = 0
      · rw [if_pos hx] at h0; cases h0
      rw [if_neg hx] at h0 ⊢
      cases he : errs x with
      | some e => rw [he] at h0; exact absurd h0 (errs_some_ne he)
      | none =>
        rw [he] at h0
        dsimp only at h0 ⊢
        have hz := errs_none.1 he
        have hd : ∀ a, a ∈ x → disj a := fun a ha => (errF_zero.1 (hz a ha)).2
        unfold limF at h0 ⊢
        by_cases h1 : (normP x).length > 100
        · rw [if_pos h1] at h0; cases h0
        rw [if_neg h1]
        have hv := valid_ok (normP x) (normP_ok x hz) (norm_ne hd (fun e => hx (by rw [e]; rfl))) (by omega)
        rw [hv, show (((0 : Int) == 0) == true) = true from rfl, optc_t]
        have e1 := f18_eq (normP x) (a1, a2) (by omega)
        have e2 := f19_eq x (a1, a2) (by omega)
        dsimp only at e1 e2
        rw [e1, some_bind, optc_t, e2, some_bind, tol_norm x hd]
        simp
    · rw [if_pos (by simpa using h0)]
      simp only [beq_self_eq_true]
      rw [optc_t]
      rfl
end Go.Abs
