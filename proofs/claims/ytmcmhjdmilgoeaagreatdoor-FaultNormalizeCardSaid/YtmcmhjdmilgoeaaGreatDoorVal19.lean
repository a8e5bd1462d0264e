/- Chapter 19: validity. -/
import Derived.Test.YtmcmhjdmilgoeaaGreatDoorPl19
namespace Go.Abs
theorem and_hi (n : Nat) (h : n < 65536) : (n &&& 61440 = 0) ↔ n < 4096 := by
  have e : (n &&& 61440) >>> 12 = n / 4096 := by
    rw [Nat.shiftRight_and_distrib, Nat.shiftRight_eq_div_pow]
    show (n / 4096) &&& 15 = n / 4096
    rw [show (15 : Nat) = 2 ^ 4 - 1 from rfl, Nat.and_two_pow_sub_one_eq_mod]
    omega
  constructor
  · intro h0
    rw [h0] at e
    simp at e
    omega
  · intro hn
    apply Nat.eq_of_testBit_eq
    intro i
    rw [Nat.testBit_and, Nat.zero_testBit]
    by_cases hi : i < 12
    · have : Nat.testBit 61440 i = false := by
        rw [show (61440 : Nat) = 2 ^ 12 * 15 from rfl, Nat.testBit_two_pow_mul]
        simp; omega
      rw [this, Bool.and_false]
    · have : n.testBit i = false := Nat.testBit_lt_two_pow (Nat.lt_of_lt_of_le hn (Nat.pow_le_pow_right (n := 2) (by decide) (by omega : 12 ≤ i)))
      rw [this, Bool.false_and]
theorem outside_eq (x : BitVec 16) : ((x &&& (BitVec.ofInt 16 61440)) == (BitVec.ofInt 16 0)) = decide (x.toNat < 4096) := by
  have h := and_hi x.toNat x.isLt
  rw [Bool.eq_iff_iff, beq_iff_eq, decide_eq_true_eq, ← h]
  constructor
  · intro e
    have := congrArg BitVec.toNat e
    simpa using this
  · intro e
    apply BitVec.eq_of_toNat_eq
    simpa using e
/-- the error of a fault -/
def errF (a : Flt) : Int := if (ftyS a).toNat < 4096 then (if a.1 &&& a.2 = 0#16 then 0 else 1) else 7
theorem f42_eq (a : Flt) : f42 a.1 a.2 = some (errF a) := by
  have e : ((ftyS a &&& ~~~(BitVec.ofInt 16 4095)) == (BitVec.ofInt 16 0)) = decide ((ftyS a).toNat < 4096) := outside_eq (ftyS a)
  unfold f42 f46 errF
  rw [some_bind]
  change (if (!((ftyS a &&& ~~~(BitVec.ofInt 16 4095)) == (BitVec.ofInt 16 0))) = true then _ else _) = _
  rw [e]
  by_cases h : (ftyS a).toNat < 4096
  · rw [decide_eq_true h, if_neg (by simp), if_pos h]
    by_cases h2 : a.1 &&& a.2 = 0#16
    · rw [if_pos h2, if_neg (by simp [h2])]
    · rw [if_neg h2, if_pos (by simpa using h2)]
  · rw [decide_eq_false h, if_pos (by simp), if_neg h]
theorem f44_eq (a : Flt) : f44 a.1 a.2 = some (errF a) := by
  unfold f44 f23 errF
  rw [some_bind]
  change (if (decide ((ftyS a).toNat ≥ 4096)) = true then _ else _) = _
  by_cases h : (ftyS a).toNat < 4096
  · rw [if_neg (by simpa using h), if_pos h]
    by_cases h2 : a.1 &&& a.2 = 0#16
    · rw [if_pos h2, if_neg (by simp [h2])]
    · rw [if_neg h2, if_pos (by simpa using h2)]
  · rw [if_pos (by simpa using h), if_neg h]
/-- a fault that covers an earlier one, or is covered by it -/
def anyC (x : List Flt) (n : Nat) : Bool := (x.take n).any fun y => cov (x.getD n default) y || cov y (x.getD n default)
def scanF (x : List Flt) : Nat → Nat → Option Int
  | 0, _ => none
  | c + 1, n => if errF (x.getD n default) ≠ 0 then some (errF (x.getD n default)) else if anyC x n = true then some 5
    else if 0 < n ∧ ¬ keyF (x.getD (n - 1) default) < keyF (x.getD n default) then some 1 else scanF x c (n + 1)
def orE (e : Option Int) (K : Unit → Option Int) : Option Int := match e with
  | some e => some e
  | none => K ()
theorem getD_take {α : Type} (x : List α) (n m : Nat) (d : α) (h : m < n) : (x.take n).getD m d = x.getD m d := by
  simp [List.getD_eq_getElem?_getD, List.getElem?_take, h]
theorem f13_L1_eq (x : List Flt) (n : Nat) (K : Unit → Option Int) (hn : n < x.length) (hx : x.length ≤ 65536) : f13_L1 x n K FUEL 0 = if anyC x n = true then some 5 else K () := by
  have hl : (x.take n).length = n := by simp; omega
  refine any_up (f13_L1 x n K) (x.take n) default (fun y => cov (x.getD n default) y || cov y (x.getD n default)) (some 5) (K ()) (fun k m hm => ?_) (fun k => ?_) FUEL (by rw [hl]; exact fuel_lt (by omega))
  · rw [hl] at hm
    rw [f13_L1.eq_2, if_pos (by simp; omega), chk_pos (by omega), f16_eq, some_bind]
    cases cov (x.getD n default) ((x.take n).getD m default) with
    | true =>
      rw [show ((true == false)) = false from rfl, optc_f, Bool.true_or, Bool.true_or, if_pos rfl, if_pos rfl]
    | false =>
      rw [show ((false == false) = true) from rfl, optc_t, f16_eq, some_bind, chk_pos (by omega)]
  · rw [hl, f13_L1.eq_2, if_neg (by simp)]
theorem f15_L1_eq (x : List Flt) (n : Nat) (K : Unit → Option Int) (hn : n < x.length) (hx : x.length ≤ 65536) : f15_L1 x n K FUEL 0 = if anyC x n = true then some 5 else K () := by
  have hl : (x.take n).length = n := by simp; omega
  refine any_up (f15_L1 x n K) (x.take n) default (fun y => cov (x.getD n default) y || cov y (x.getD n default)) (some 5) (K ()) (fun k m hm => ?_) (fun k => ?_) FUEL (by rw [hl]; exact fuel_lt (by omega))
  · rw [hl] at hm
    rw [f15_L1.eq_2, if_pos (by simp; omega), f17_eq, some_bind, getD_take x n m default hm]
    cases cov (x.getD n default) (x.getD m default) with
    | true =>
      rw [show ((true == false)) = false from rfl, optc_f, chk_pos (by omega), chk_pos (by omega), chk_pos (by intro h; cases h), chk_pos (by intro h; cases h), Bool.true_or, Bool.true_or, if_pos rfl, if_pos rfl]
    | false =>
      rw [show ((false == false)) = true from rfl, optc_t, f17_eq, some_bind, chk_pos (by omega), chk_pos (by omega), chk_pos (by intro; omega), chk_pos (by intro; omega), chk_pos (by omega)]
  · rw [hl, f15_L1.eq_2, if_neg (by simp)]
theorem f13_L0_eq (x : List Flt) (K : Unit → Option Int) (hx : x.length ≤ 65536) : ∀ (c k n : Nat), n + c = x.length → c < k → f13_L0 x K k n = orE (scanF x c n) K
  | 0, k, n, hn, hk => by
    obtain ⟨k, rfl⟩ : ∃ q, k = q + 1 := ⟨k - 1, by omega⟩
    rw [f13_L0.eq_2, if_neg (by simp; omega)]
    rfl
  | c + 1, k, n, hn, hk => by
    obtain ⟨k, rfl⟩ : ∃ q, k = q + 1 := ⟨k - 1, by omega⟩
    have ih := f13_L0_eq x K hx c k (n + 1) (by omega) (by omega)
    rw [f13_L0.eq_2, if_pos (by simp; omega), chk_pos (by omega), f42_eq, some_bind]
    unfold scanF
    by_cases he : errF (x.getD n default) = 0
    · rw [if_neg (by rw [he]; decide), if_neg (fun h => h he), jn_eq, chk_pos (by omega), f13_L1_eq x n _ (by omega) hx]
      by_cases ha : anyC x n = true
      · rw [if_pos ha, if_pos ha]; rfl
      · rw [if_neg ha, if_neg ha]
        have hn1 : ((n : Int) - 1).toNat = n - 1 := by omega
        rw [hn1]
        by_cases h0 : 0 < n
        · have h0' : ((decide ((n : Int) > 0)) == true) = true := by simp; omega
          obtain ⟨r, h1, h2⟩ := f43_lt (x.getD (n - 1) default) (x.getD n default)
          rw [h0', optc_t, h1, some_bind, chk_pos (by intro; omega), chk_pos (by intro; omega), chk_pos (by omega), ih]
          by_cases hk2 : keyF (x.getD (n - 1) default) < keyF (x.getD n default)
          · rw [if_neg (by have := h2.2 hk2; simp; omega), if_neg (fun h => h.2 hk2)]
          · rw [if_pos (by have : ¬ r < 0 := fun h => hk2 (h2.1 h); simp; omega), if_pos ⟨h0, hk2⟩]; rfl
        · have h0' : ((decide ((n : Int) > 0)) == true) = false := by simp; omega
          rw [h0', optc_f, chk_pos (by intro h; cases h), chk_pos (by intro h; cases h), if_neg (by simp; omega), if_neg (by omega), chk_pos (by omega), ih]
    · rw [if_pos (by simpa using he), if_pos he]; rfl
theorem f15_L0_eq (x : List Flt) (K : Unit → Option Int) (hx : x.length ≤ 65536) : ∀ (c k n : Nat), n + c = x.length → c < k → f15_L0 x K k n = orE (scanF x c n) K
  | 0, k, n, hn, hk => by
    obtain ⟨k, rfl⟩ : ∃ q, k = q + 1 := ⟨k - 1, by omega⟩
    rw [f15_L0.eq_2, if_neg (by simp; omega)]
    rfl
  | c + 1, k, n, hn, hk => by
    obtain ⟨k, rfl⟩ : ∃ q, k = q + 1 := ⟨k - 1, by omega⟩
    have ih := f15_L0_eq x K hx c k (n + 1) (by omega) (by omega)
    rw [f15_L0.eq_2, if_pos (by simp; omega), f44_eq, some_bind, chk_pos (by omega)]
    unfold scanF
    by_cases he : errF (x.getD n default) = 0
    · rw [if_neg (by rw [he]; decide), if_neg (fun h => h he), jn_eq, f15_L1_eq x n _ (by omega) hx]
      by_cases ha : anyC x n = true
      · rw [if_pos ha, if_pos ha]; rfl
      · rw [if_neg ha, if_neg ha]
        have hn1 : ((n : Int) - 1).toNat = n - 1 := by omega
        rw [hn1]
        by_cases h0 : 0 < n
        · have h0' : ((decide ((n : Int) > 0)) == true) = true := by simp; omega
          obtain ⟨r, h1, h2⟩ := f45_eq (x.getD (n - 1) default) (x.getD n default)
          rw [h0', optc_t, h1, some_bind, chk_pos (by intro; omega), chk_pos (by intro; omega), chk_pos (by intro; omega), chk_pos (by omega), ih]
          by_cases hk2 : keyF (x.getD (n - 1) default) < keyF (x.getD n default)
          · rw [if_neg (by have := h2.2 hk2; simp; omega), if_neg (fun h => h.2 hk2)]
          · rw [if_pos (by have : ¬ r < 0 := fun h => hk2 (h2.1 h); simp; omega), if_pos ⟨h0, hk2⟩]; rfl
        · have h0' : ((decide ((n : Int) > 0)) == true) = false := by simp; omega
          rw [h0', optc_f, chk_pos (by intro h; cases h), chk_pos (by intro h; cases h), chk_pos (by intro h; cases h), if_neg (by simp; omega), if_neg (by omega), chk_pos (by omega), ih]
    · rw [if_pos (by simpa using he), if_pos he]; rfl
/-- the error of a model -/
def validF (x : List Flt) : Int := if x.length = 0 then 9 else if x.length > 100 then 3 else (scanF x x.length 0).getD 0
theorem f13_eq (x : List Flt) : f13 x = some (validF x) := by
  unfold f13 validF
  by_cases h0 : x.length = 0
  · rw [if_pos (by simpa using h0), if_pos h0]
  · rw [if_neg (by simpa using h0), if_neg h0]
    by_cases h1 : x.length > 100
    · rw [if_pos (by simp; omega), if_pos h1]
    · rw [if_neg (by simp; omega), if_neg h1, jn_eq, f13_L0_eq x _ (by omega) x.length FUEL 0 (by omega) (fuel_lt (by omega))]
      cases scanF x x.length 0 <;> rfl
theorem f15_eq (x : List Flt) : f15 x = some (validF x) := by
  unfold f15 validF
  by_cases h0 : x.length = 0
  · rw [if_pos (by simpa using h0), if_pos h0]
  · rw [if_neg (by simpa using h0), if_neg h0]
    by_cases h1 : x.length > 100
    · rw [if_pos (by simp; omega), if_pos h1]
    · rw [if_neg (by simp; omega), if_neg h1, jn_eq, f15_L0_eq x _ (by omega) x.length FUEL 0 (by omega) (fuel_lt (by omega))]
      cases scanF x x.length 0 <;> rfl
theorem f14_eq (x : List Flt) (h : x.length ≤ 65536) : f14 x = some x := by
  unfold f14
  rw [abc_eq, chk_pos (by omega)]
  · rfl
  · intro h0
    rw [List.eq_nil_of_length_eq_zero h0]
    rfl
end Go.Abs
