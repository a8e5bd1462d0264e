/- Part 25 of the proof: Num, Hlp54, Dec54, Mon54e, Mon54f, Mon54g, Aw54k. -/
import Derived.Test.YtfkhgbcggabkjaaGreatDoorMoncomZ24
import Derived.Lib.AtoiAllCases
import Derived.Lib.ItoaLen
namespace Go.Abs
open Go Go.Lib
theorem parse_app : ∀ (a b : List UInt8) (acc : Nat) (v : Nat), parseUint10 acc a = .ok v → parseUint10 acc (a ++ b) = parseUint10 v b
 | [], b, acc, v, h => by
  simp only [parseUint10, NumEnd.ok.injEq] at h
  subst h; rfl
 | c :: a, b, acc, v, h => by
  simp only [parseUint10, List.cons_append] at h ⊢
  split at h
  ·split at h
   ·cases h
   ·split at h
    ·cases h
    ·rename_i h1 h2 h3
     rw [if_pos h1, if_neg h2, if_neg h3]
     exact parse_app a b _ v h
  ·cases h
theorem dig_nat (d : Nat) (h : d < 10) : (UInt8.ofNat (48 + d)).toNat = 48 + d := by
 simp [UInt8.toNat_ofNat']
 omega
theorem parse_dig (n : Nat) (hn : n ≤ 9223372036854775807) : parseUint10 0 (decDigits n) = .ok n := by
 induction n using Nat.strongRecOn with
 | ind n ih =>
  by_cases h : n < 10
  ·rw [decDigits, dif_pos h]
   simp only [parseUint10, dig_nat n h]
   rw [if_pos (by omega), if_neg (by omega), if_neg (by omega)]
   congr 1
   omega
  ·rw [decDigits, dif_neg h]
   have := ih (n / 10) (by omega) (by omega)
   rw [parse_app _ _ _ _ this]
   simp only [parseUint10, dig_nat (n % 10) (by omega)]
   rw [if_pos (by omega), if_neg (by omega), if_neg (by omega)]
   congr 1
   omega
theorem dig_ne (n : Nat) : decDigits n ≠ [] := by
 rw [decDigits]
 split <;> simp
theorem dig_head (n : Nat) : ∃ c r, decDigits n = c :: r ∧ 48 ≤ c.toNat ∧ c.toNat ≤ 57 := by
 induction n using Nat.strongRecOn with
 | ind n ih =>
  by_cases h : n < 10
  ·rw [decDigits, dif_pos h]
   exact ⟨_, _, rfl, by rw [dig_nat n h]; omega, by rw [dig_nat n h]; omega⟩
  ·obtain ⟨c, r, e, h1, h2⟩ := ih (n / 10) (by omega)
   rw [decDigits, dif_neg h, e]
   exact ⟨c, _, rfl, h1, h2⟩
theorem atoi_itoa (n : Int) (h0 : 0 ≤ n) (h1 : n ≤ 9223372036854775807) : Lib.atoiAll (Lib.itoa n) = .ok n := by
 rw [Lib.itoa, if_neg (by omega)]
 obtain ⟨m, rfl⟩ : ∃ m : Nat, n = m := ⟨n.toNat, by omega⟩
 rw [Int.toNat_natCast]
 obtain ⟨c, r, e, h2, h3⟩ := dig_head m
 have hp := parse_dig m (by omega)
 rw [e] at hp ⊢
 rw [atoiAll_plain c r (by omega) (by omega)]
 unfold parseMag
 rw [if_neg (by simp), hp]
 unfold signless
 simp only
 rw [if_neg (by omega)]
theorem itoa_len7 (n : Int) (h0 : 0 ≤ n) (h1 : n ≤ 9999999) : (Lib.itoa n).length ≤ 7 := by
 rw [Lib.itoa, if_neg (by omega)]
 obtain ⟨m, rfl⟩ : ∃ m : Nat, n = m := ⟨n.toNat, by omega⟩
 rw [Int.toNat_natCast]
 have : ∀ (k m : Nat), m < 10 ^ (k + 1) → (decDigits m).length ≤ k + 1 := by
  intro k
  induction k with
  | zero => intro m h; rw [decDigits, dif_pos (by omega)]; simp
  | succ k ih =>
   intro m h
   by_cases h' : m < 10
   ·rw [decDigits, dif_pos h']; simp
   ·rw [decDigits, dif_neg h', List.length_append]
    have := ih (m / 10) (by rw [Nat.pow_succ] at h; omega)
    simp only [List.length_cons, List.length_nil]
    omega
 exact this 6 m (by omega)
theorem atoiO_itoa (n : Int) (h0 : 0 ≤ n) (h1 : n ≤ 9223372036854775807) : atoiO (Lib.itoa n) = some (n, false) := by
 unfold atoiO
 have := Lib.itoa_length_le n (by omega) h1
 rw [if_pos (by omega), atoi_itoa n h0 h1]
theorem atoiO_some (s : List UInt8) (h : s.length ≤ 281474976710656) : ∃ v b, atoiO s = some (v, b) ∧ -9223372036854775808 ≤ v ∧ v ≤ 9223372036854775807 := by
 unfold atoiO
 rw [if_pos h]
 cases e : Lib.atoiAll s with
 | ok v => exact ⟨v, false, rfl, atoiAll_bounds e⟩
 | range => exact ⟨_, true, rfl, atoiSat_bounds s⟩
 | _ => exact ⟨0, true, rfl, by omega, by omega⟩
end Go.Abs
namespace Go.Abs
open Go
abbrev Ss := Int × Int × List UInt8
def good (q : Ss) : Bool := (((((decide (q.1 ≥ 0)) && (decide (q.1 < 6))) && (decide (q.2.1 ≥ 1))) && (decide (q.2.1 ≤ 1000000))) && !(q.2.2 == [])) && decide (((q.2.2.length : Nat) : Int) ≤ 200)
theorem good_of {q : Ss} (h : good q = true) : 0 ≤ q.1 ∧ q.1 < 6 ∧ 1 ≤ q.2.1 ∧ q.2.1 ≤ 1000000 ∧ q.2.2.length ≤ 200 := by
 unfold good at h
 simp only [Bool.and_eq_true, decide_eq_true_eq] at h
 omega
theorem getD_mem {α : Type} (l : List α) (i : Nat) (d : α) (h : i < l.length) : l.getD i d ∈ l := by
 rw [List.getD_eq_getElem?_getD, List.getElem?_eq_getElem h]; exact List.getElem_mem ..
end Go.Abs
namespace Go.Abs
theorem dig116_eq : ∀ (q n : Nat), n < 10 ^ (q + 1) → n ≤ 1000000000000000 → ∀ k, q + 1 ≤ k → f88 k (n : Int) = some (Lib.itoa (n : Int))
 | q, n, hn, hb, k, hk => by
  obtain ⟨k, rfl⟩ : ∃ z, k = z + 1 := ⟨k - 1, by omega⟩
  conv => lhs; unfold f88
  rw [Lib.itoa_nonneg]
  by_cases h : n < 10
  ·rw [ifd_pos (by omega), chk_pos (by omega), chk_pos (by omega), Lib.decDigits_one h]
   congr 3
  ·rw [ifd_neg (by omega)]
   match q, hn, hk with
   | 0, hn, _ => omega
   | q + 1, hn, hk =>
    have e1 : (n : Int) / 10 = ((n / 10 : Nat) : Int) := by omega
    have e2 : (n : Int) % 10 = ((n % 10 : Nat) : Int) := by omega
    rw [e1, e2, dig116_eq q (n / 10) (by rw [Nat.pow_succ] at hn; omega) (by omega) k (by omega), some_bind, chk_pos (by omega), chk_pos (by omega), chk_pos (by omega), chk_pos (by omega)]
    have hl := Lib.itoa_length_le ((n / 10 : Nat) : Int) (by omega) (by omega)
    rw [chk_pos (by rw [List.length_singleton]; omega), Lib.itoa_nonneg]
    conv => rhs; rw [Lib.decDigits, dif_neg h]
    congr 3
theorem dig116 {n : Int} (h0 : 0 ≤ n) (h1 : n ≤ 1000000000000000) : f88 FUEL n = some (Lib.itoa n) := by
 obtain ⟨m, rfl⟩ : ∃ m : Nat, n = m := ⟨n.toNat, by omega⟩
 exact dig116_eq 15 m (by omega) (by omega) FUEL (by unfold FUEL; omega)
theorem f121_small (n : Nat) (hn : n < 128) (k : Nat) : f121 (k + 1) (n : Int) = some [UInt8.ofNat n] := by
 conv => lhs; unfold f121
 rw [ifd_pos (by omega), chk_pos (by omega), Int.toNat_natCast]
open Go
theorem bits_u8 (x y : Int) : 0 ≤ bitsI .and .u8 x y ∧ bitsI .and .u8 x y ≤ 255 := by
 unfold bitsI
 generalize ((BitVec.ofInt IntKind.u8.bits x &&& BitVec.ofInt IntKind.u8.bits y).toNat : Int) = n
 unfold IntKind.wrap
 simp [IntKind.bits, IntKind.signed]
 omega
theorem bits_u64 (x y : Int) : 0 ≤ bitsI .or .u64 x y ∧ bitsI .or .u64 x y ≤ 18446744073709551615 := by
 unfold bitsI
 generalize ((BitVec.ofInt IntKind.u64.bits x ||| BitVec.ofInt IntKind.u64.bits y).toNat : Int) = n
 unfold IntKind.wrap
 simp [IntKind.bits, IntKind.signed]
 omega
theorem or64 (a b : Nat) (ha : a < 2 ^ 64) (hb : b < 2 ^ 64) : bitsI .or .u64 (a : Int) (b : Int) = ((a ||| b : Nat) : Int) := by
 have h : (BitVec.ofInt IntKind.u64.bits (a : Int) ||| BitVec.ofInt IntKind.u64.bits (b : Int)).toNat = a ||| b := by
  have e : IntKind.u64.bits = 64 := rfl
  rw [e, BitVec.toNat_or, BitVec.ofInt_natCast, BitVec.ofInt_natCast, BitVec.toNat_ofNat, BitVec.toNat_ofNat, Nat.mod_eq_of_lt ha, Nat.mod_eq_of_lt hb]
 unfold bitsI
 simp only [h]
 have := Nat.or_lt_two_pow ha hb
 exact wrap_in (k := .u64) (show 0 ≤ ((a ||| b : Nat) : Int) ∧ ((a ||| b : Nat) : Int) ≤ 18446744073709551615 by omega)
theorem and127 : ∀ m : Fin 256, bitsI .and .u8 ((m.val : Nat) : Int) 127 = ((m.val % 128 : Nat) : Int) := by decide +kernel
def chk8 (c : Nat) : Option Int → Bool
 | some r => decide (c < 2 ^ r.toNat) && decide (0 ≤ r) && decide (r ≤ 8)
 | none => false
theorem len8 : ∀ c : Fin 128, chk8 c.val (f192 ((c.val : Nat) : Int)) = true := by decide +kernel
theorem len8' (c : Nat) (h : c < 128) : ∃ t : Nat, f192 (c : Int) = some (t : Int) ∧ c < 2 ^ t ∧ t ≤ 8 := by
 have h1 := len8 ⟨c, h⟩
 simp only at h1
 generalize f192 ((c : Nat) : Int) = q at h1
 cases q with
 | none => cases h1
 | some r =>
  simp only [chk8, Bool.and_eq_true, decide_eq_true_eq] at h1
  obtain ⟨⟨h3, h4⟩, h5⟩ := h1
  exact ⟨r.toNat, by rw [Int.toNat_of_nonneg h4], h3, by omega⟩
theorem shl_ok (c t n : Nat) (hc : c < 2 ^ t) (h : t + 7 * n ≤ 64) : c * 2 ^ (7 * n) < 18446744073709551616 := by
 have h1 : c * 2 ^ (7 * n) < 2 ^ t * 2 ^ (7 * n) := Nat.mul_lt_mul_of_pos_right hc (Nat.pow_pos (by decide))
 rw [← Nat.pow_add] at h1
 have h2 : 2 ^ (t + 7 * n) ≤ 2 ^ 64 := Nat.pow_le_pow_right (by decide) h
 omega
theorem get_last (x : List UInt8) (K : Unit → Option Tq6) (i : Int) (n k c : Nat) (hn : n < min x.length 10) (hx : x.length ≤ 1000000) (hc : (x.getD n 0).toNat = c) (h8 : c < 128) :
  ∃ t : Nat, f192 (c : Int) = some (t : Int) ∧ f156_L0 x K (k + 1) (i, n) = if 64 < t + 7 * n then some (0, 0, 7) else if c = 0 ∧ 0 < n then some (0, 0, 2) else some (bitsI .or .u64 i (((c * 2 ^ (7 * n) : Nat) : Int)), ((n + 1 : Nat) : Int), 0) := by
 obtain ⟨t, ht, h1, h2⟩ := len8' c h8
 refine ⟨t, ht, ?_⟩
 conv => lhs; unfold f156_L0
 rw [hc, ifd_pos (by omega), chk_pos (by omega), ifd_neg (by omega), ht, some_bind, chk_pos (by omega), chk_pos (by omega)]
 by_cases h64 : 64 < t + 7 * n
 ·rw [ifd_pos (by omega), if_pos h64]
 ·rw [ifd_neg (by omega), if_neg h64]
  by_cases hz : c = 0 ∧ 0 < n
  ·rw [if_pos (by simp; omega), if_pos hz]
  ·rw [if_neg (by simp; omega), if_neg hz, chk_pos (by omega), chk_pos (by omega)]
   have hs := shl_ok c t n h1 (by omega)
   have hb : IntKind.bits .u64 = 64 := rfl
   have e : ((c : Int) * 2 ^ (7 * n)) = ((c * 2 ^ (7 * n) : Nat) : Int) := by
    rw [Int.natCast_mul, Int.natCast_pow]; rfl
   rw [e, chk_pos ⟨by omega, by omega, by omega⟩, chk_pos (by omega)]
theorem get_more (x : List UInt8) (K : Unit → Option Tq6) (i : Int) (n k c : Nat) (hn : n < min x.length 10) (hx : x.length ≤ 1000000) (hc : (x.getD n 0).toNat = c) (h8 : 128 ≤ c) :
  f156_L0 x K (k + 1) (i, n) = f156_L0 x K k (bitsI .or .u64 i (IntKind.wrap .u64 (bitsI .and .u8 (c : Int) 127 * 2 ^ min (7 * n) (IntKind.bits .u64))), n + 1) := by
 have hb := bits_u8 (c : Int) 127
 conv => lhs; unfold f156_L0
 rw [hc, ifd_pos (by omega), chk_pos (by omega), ifd_pos (by omega), chk_pos (by omega), chk_pos (by omega), chk_pos (by omega)]
theorem get_end (x : List UInt8) (K : Unit → Option Tq6) (i : Int) (n k : Nat) (hn : ¬ n < min x.length 10) : f156_L0 x K (k + 1) (i, n) = K () := by
 conv => lhs; unfold f156_L0
 rw [ifd_neg (by omega)]
theorem f156_L0_some (x : List UInt8) (hx : x.length ≤ 1000000) (K : Unit → Option Tq6) (hK : ∃ e, K () = some (0, 0, e) ∧ e ≠ 0) : ∀ (c k n : Nat) (i : Int), n + c = min x.length 10 → c < k →
  ∃ v j e, f156_L0 x K k (i, n) = some (v, j, e) ∧ (e = 0 → 0 ≤ v ∧ v ≤ 18446744073709551615 ∧ 1 ≤ j ∧ j ≤ (x.length : Int))
 | 0, k, n, i, hn, hk => by
  obtain ⟨k, rfl⟩ : ∃ z, k = z + 1 := ⟨k - 1, by omega⟩
  obtain ⟨e, he, h0⟩ := hK
  rw [get_end x K i n k (by omega), he]
  exact ⟨0, 0, e, rfl, fun h => absurd h h0⟩
 | c + 1, k, n, i, hn, hk => by
  obtain ⟨k, rfl⟩ : ∃ z, k = z + 1 := ⟨k - 1, by omega⟩
  by_cases h8 : (x.getD n 0).toNat < 128
  ·obtain ⟨t, _, h⟩ := get_last x K i n k _ (by omega) hx rfl h8
   rw [h]
   split
   ·exact ⟨_, _, _, rfl, fun h => by cases h⟩
   ·split
    ·exact ⟨_, _, _, rfl, fun h => by cases h⟩
    ·have := bits_u64 i (((x.getD n 0).toNat * 2 ^ (7 * n) : Nat) : Int)
     exact ⟨_, _, _, rfl, fun _ => ⟨this.1, this.2, by omega, by omega⟩⟩
  ·rw [get_more x K i n k _ (by omega) hx rfl (by omega)]
   exact f156_L0_some x hx K hK c k (n + 1) _ (by omega) (by omega)
theorem f156_some (x : List UInt8) (hx : x.length ≤ 1000000) : ∃ v j e, f156 x = some (v, j, e) ∧ (e = 0 → 0 ≤ v ∧ v ≤ 18446744073709551615 ∧ 1 ≤ j ∧ j ≤ (x.length : Int)) := by
 unfold f156
 rw [jn_eq]
 refine f156_L0_some x hx _ ?_ (min x.length 10) FUEL 0 0 (by omega) (fuel_lt (by omega))
 by_cases h : x.length < 10
 ·exact ⟨9, by rw [ifd_pos (by omega)], by decide⟩
 ·exact ⟨7, by rw [ifd_neg (by omega)], by decide⟩
theorem f156_vint (n : Nat) (r : List UInt8) (hn : n < 16384) (hx : (vint n ++ r).length ≤ 1000000) : f156 (vint n ++ r) = some ((n : Int), ((vint n).length : Int), 0) := by
 obtain ⟨k, hk⟩ : ∃ k, FUEL = k + 2 := ⟨FUEL - 2, by unfold FUEL; omega⟩
 unfold f156
 rw [jn_eq, hk]
 by_cases h : n < 128
 ·rw [vint_lt h] at hx ⊢
  have e : ([UInt8.ofNat n] ++ r).getD 0 0 = UInt8.ofNat n := rfl
  have e2 : (([UInt8.ofNat n] ++ r).getD 0 0).toNat = n := by rw [e]; simp [UInt8.toNat_ofNat']; omega
  obtain ⟨t, ht, h1⟩ := get_last ([UInt8.ofNat n] ++ r) (fun (_ : Unit) => if (decide (((([UInt8.ofNat n] ++ r).length : Nat) : Int) < (10 : Int))) then some ((0 : Int), (0 : Int), (9 : Int)) else some ((0 : Int), (0 : Int), (7 : Int))) 0 0 (k + 1) n (by simp; omega) hx e2 h
  obtain ⟨t', ht', _, h8⟩ := len8' n h
  rw [ht] at ht'
  cases ht'
  rw [h1, if_neg (by omega), if_neg (by omega)]
  have := or64 0 n (by omega) (by omega)
  rw [Nat.zero_or] at this
  simpa using this
 ·rw [vint_ge h, vint_lt (show n / 128 < 128 by omega)] at hx ⊢
  generalize hy : UInt8.ofNat (n % 128 + 128) :: [UInt8.ofNat (n / 128)] ++ r = y at hx ⊢
  have e0 : (y.getD 0 0).toNat = n % 128 + 128 := by rw [← hy]; simp [UInt8.toNat_ofNat']; omega
  have e1 : (y.getD 1 0).toNat = n / 128 := by rw [← hy]; simp [UInt8.toNat_ofNat']; omega
  have hl : 2 ≤ y.length := by rw [← hy]; simp
  rw [get_more y _ 0 0 (k + 1) _ (by omega) hx e0 (by omega)]
  have ea := and127 ⟨n % 128 + 128, by omega⟩
  simp only at ea
  rw [ea]
  have em : (n % 128 + 128) % 128 = n % 128 := by omega
  have ew : IntKind.wrap .u64 (((n % 128 + 128) % 128 : Nat) * 2 ^ min (7 * 0) (IntKind.bits .u64)) = ((n % 128 : Nat) : Int) := by
   rw [em]
   have : ((2 : Int) ^ min (7 * 0) (IntKind.bits .u64)) = 1 := rfl
   rw [this, Int.mul_one]
   exact wrap_in (k := .u64) (show 0 ≤ ((n % 128 : Nat) : Int) ∧ ((n % 128 : Nat) : Int) ≤ 18446744073709551615 by omega)
  rw [ew]
  have eo := or64 0 (n % 128) (by omega) (by omega)
  rw [Nat.zero_or] at eo
  have eo' : bitsI .or .u64 0 ((n % 128 : Nat) : Int) = ((n % 128 : Nat) : Int) := eo
  rw [eo']
  obtain ⟨t', ht', _, h8⟩ := len8' (n / 128) (by omega)
  obtain ⟨t, ht, h1⟩ := get_last y (fun (_ : Unit) => if (decide (((y.length : Nat) : Int) < (10 : Int))) then some ((0 : Int), (0 : Int), (9 : Int)) else some ((0 : Int), (0 : Int), (7 : Int))) ((n % 128 : Nat) : Int) 1 k (n / 128) (by omega) hx e1 (by omega)
  rw [ht] at ht'
  cases ht'
  rw [h1, if_neg (by omega), if_neg (by omega)]
  have e3 := or64 (n % 128) (n / 128 * 2 ^ (7 * 1)) (by omega) (by omega)
  have e4 : (n % 128 ||| n / 128 * 2 ^ (7 * 1)) = n := by
   have := Nat.two_pow_add_eq_or_of_lt (i := 7) (b := n % 128) (by omega) (n / 128)
   rw [Nat.or_comm, show n / 128 * 2 ^ (7 * 1) = 2 ^ 7 * (n / 128) by omega, ← this]
   omega
  rw [e3, e4]
  rfl
theorem f126_some (x : List UInt8) (hx : x.length ≤ 1000000) : ∃ s j e, f126 x = some (s, j, e) ∧ (e = 0 → 1 ≤ j ∧ j ≤ (x.length : Int) ∧ s.length ≤ x.length) := by
 obtain ⟨v, j, e, h, hb⟩ := f156_some x hx
 unfold f126
 rw [h, some_bind]
 by_cases he : e = 0
 ·subst he
  obtain ⟨h1, h2, h3, h4⟩ := hb rfl
  rw [if_neg (by simp)]
  dsimp only
  rw [chk_pos (by omega), chk_pos (by omega)]
  by_cases hv : v > (x.length : Int) - j
  ·rw [ifd_pos hv]
   exact ⟨_, _, _, rfl, fun h => by cases h⟩
  ·rw [ifd_neg hv, chk_pos (by omega), chk_pos (by omega), chk_pos (by omega)]
   refine ⟨_, _, _, rfl, fun _ => ⟨by omega, by omega, ?_⟩⟩
   simp only [List.length_drop, List.length_take]
   omega
 ·rw [if_pos (by simpa using he)]
  exact ⟨_, _, _, rfl, fun h => absurd h he⟩
def item (s : List UInt8) : List UInt8 := vint s.length ++ s
theorem f126_item (s r : List UInt8) (hs : s.length < 16384) (hx : (item s ++ r).length ≤ 1000000) : f126 (item s ++ r) = some (s, ((item s).length : Int), 0) := by
 unfold item at hx ⊢
 rw [List.append_assoc] at hx ⊢
 unfold f126
 rw [f156_vint s.length (s ++ r) hs hx, some_bind]
 have hl : (vint s.length ++ (s ++ r)).length = (vint s.length).length + (s.length + r.length) := by simp
 have hl2 : (vint s.length ++ s).length = (vint s.length).length + s.length := by simp
 rw [if_neg (by simp)]
 dsimp only
 rw [chk_pos (by omega), chk_pos (by omega), ifd_neg (by omega), chk_pos (by omega), chk_pos (by omega), chk_pos (by omega)]
 have e : ((vint s.length).length : Int) + (s.length : Int) = (((vint s.length).length + s.length : Nat) : Int) := by omega
 rw [e, Int.toNat_natCast, Int.toNat_natCast, ← List.append_assoc, ← hl2, List.take_left, List.drop_left]
def items (L : List (List UInt8)) : List UInt8 := (L.map item).flatten
theorem plist_items (L : List (List UInt8)) : plist L = vint L.length ++ items L := rfl
theorem items_cons (s : List UInt8) (L : List (List UInt8)) : items (s :: L) = item s ++ items L := rfl
theorem f125_L0_some (x : List UInt8) (hx : x.length ≤ 1000000) (r2 : Tq6) (K : Int × List (List UInt8) → Option (Int × Int × List (List UInt8))) (hK : ∀ i l, ∃ j e l', K (i, l) = some (j, e, l') ∧ l' = l) :
  ∀ (c k i n : Nat) (l : List (List UInt8)), i + c = x.length → c < k → n ≤ i → l.length = n → (∀ s, s ∈ l → s.length ≤ x.length) → ∃ j e l', f125_L0 x r2 K k ((i : Int), n, l) = some (j, e, l') ∧ (∀ s, s ∈ l' → s.length ≤ x.length) ∧ l'.length ≤ x.length := by
 intro c
 induction c using Nat.strongRecOn with
 | ind c ih =>
  intro k i n l hi hk hn hl hs
  obtain ⟨k, rfl⟩ : ∃ z, k = z + 1 := ⟨k - 1, by omega⟩
  by_cases hr : (n : Int) < r2.1
  ·obtain ⟨s, j, e, h, hb⟩ := f126_some (x.drop i) (by rw [List.length_drop]; omega)
   rw [List.length_drop] at hb
   have hu : f125_L0 x r2 K (k + 1) ((i : Int), n, l) = if (e != 0) = true then some (0, e, []) else chk ((l.length + 1) * 16 ≤ 140737488355328) (chk (-9223372036854775808 ≤ (i : Int) + j ∧ (i : Int) + j ≤ 9223372036854775807) (chk ((n : Int) + 1 ≤ 18446744073709551615) (f125_L0 x r2 K k ((i : Int) + j, n + 1, l ++ [s])))) := by
    conv => lhs; unfold f125_L0
    rw [ifd_pos hr, Int.toNat_natCast, h, some_bind, chk_pos (by omega)]
   rw [hu]
   by_cases he : e = 0
   ·subst he
    obtain ⟨h1, h2, h3⟩ := hb rfl
    rw [if_neg (by simp), chk_pos (by omega), chk_pos (by omega), chk_pos (by omega)]
    obtain ⟨m, rfl⟩ : ∃ m : Nat, j = m := ⟨j.toNat, by omega⟩
    have := ih (c - m) (by omega) k (i + m) (n + 1) (l ++ [s]) (by omega) (by omega) (by omega) (by simp [hl]) (fun t ht => by
     rcases List.mem_append.1 ht with ht | ht
     ·exact hs t ht
     ·simp only [List.mem_singleton] at ht
      subst ht; omega)
    simpa using this
   ·rw [if_pos (by simpa using he)]
    exact ⟨_, _, _, rfl, by simp, by simp⟩
  ·obtain ⟨j, e, l', h, rfl⟩ := hK i l
   refine ⟨j, e, l', ?_, hs, by omega⟩
   conv => lhs; unfold f125_L0
   rw [ifd_neg hr]
   exact h
theorem f96_some (x : List UInt8) (hx : x.length ≤ 1000000) : ∃ j e l, f96 x = some (j, e, l) ∧ (∀ s, s ∈ l → s.length ≤ x.length) ∧ l.length ≤ x.length := by
 obtain ⟨v, j, e, h, hb⟩ := f156_some x hx
 have h119 : ∃ j e l, f125 x = some (j, e, l) ∧ (∀ s, s ∈ l → s.length ≤ x.length) ∧ l.length ≤ x.length := by
  unfold f125
  rw [h, some_bind]
  by_cases he : e = 0
  ·subst he
   obtain ⟨h1, h2, h3, h4⟩ := hb rfl
   rw [if_neg (by simp), jn_eq]
   obtain ⟨m, rfl⟩ : ∃ m : Nat, j = m := ⟨j.toNat, by omega⟩
   exact f125_L0_some x hx _ _ (fun i l => ⟨i, 0, l, rfl, rfl⟩) (x.length - m) FUEL m 0 [] (by omega) (fuel_lt (by omega)) (by omega) rfl (by simp)
  ·rw [if_pos (by simpa using he)]
   exact ⟨_, _, _, rfl, by simp, by simp⟩
 obtain ⟨j, e, l, h, hs⟩ := h119
 unfold f96
 rw [h]
 exact ⟨j, e, l, rfl, hs⟩
theorem vint_pos (n : Nat) : 1 ≤ (vint n).length := by
 rw [vint]
 split <;> simp
theorem item_pos (s : List UInt8) : 1 ≤ (item s).length := by
 unfold item
 have := vint_pos s.length
 rw [List.length_append]
 omega
theorem f125_L0_items (x : List UInt8) (hx : x.length ≤ 1000000) (r2 : Tq6) (K : Int × List (List UInt8) → Option (Int × Int × List (List UInt8))) (L : List (List UInt8)) (hr : r2.1 = (L.length : Int)) :
  ∀ (M : List (List UInt8)) (A : List UInt8) (D : List (List UInt8)) (k : Nat), (∀ s, s ∈ M → s.length < 16384) → x = A ++ items M → L = D ++ M → D.length ≤ A.length → M.length < k → f125_L0 x r2 K k ((A.length : Int), D.length, D) = K ((x.length : Int), L)
 | [], A, D, k, _, hxe, hL, _, hk => by
  obtain ⟨k, rfl⟩ : ∃ z, k = z + 1 := ⟨k - 1, by omega⟩
  have e1 : x.length = A.length := by rw [hxe]; simp [items]
  have e2 : L = D := by rw [hL]; simp
  conv => lhs; unfold f125_L0
  rw [ifd_neg (by rw [hr, e2]; omega), e1, e2]
 | s :: M, A, D, k, hM, hxe, hL, hD, hk => by
  obtain ⟨k, rfl⟩ : ∃ z, k = z + 1 := ⟨k - 1, by omega⟩
  simp only [List.length_cons] at hk
  have hl : L.length = D.length + (M.length + 1) := by rw [hL]; simp
  have e1 : x.drop A.length = item s ++ items M := by rw [hxe, List.drop_left, items_cons]
  have hxl : x.length = A.length + ((item s).length + (items M).length) := by rw [hxe, items_cons]; simp
  have h := f126_item s (items M) (hM s (List.mem_cons_self ..)) (by rw [← e1, List.length_drop]; omega)
  have hp := item_pos s
  have ih := f125_L0_items x hx r2 K L hr M (A ++ item s) (D ++ [s]) k (fun t ht => hM t (List.mem_cons_of_mem _ ht)) (by rw [hxe, items_cons]; simp) (by rw [hL]; simp) (by
   simp only [List.length_append, List.length_singleton]
   omega) (by omega)
  conv => lhs; unfold f125_L0
  rw [ifd_pos (by rw [hr]; omega), Int.toNat_natCast, e1, h, some_bind, chk_pos (by omega), if_neg (by simp)]
  dsimp only
  rw [chk_pos (by omega), chk_pos (by omega), chk_pos (by omega), ← ih]
  simp
theorem f96_plist (L : List (List UInt8)) (hL : L.length < 16384) (hs : ∀ s, s ∈ L → s.length < 16384) (hx : (plist L).length ≤ 1000000) : f96 (plist L) = some (((plist L).length : Int), 0, L) := by
 have h119 : f125 (plist L) = some (((plist L).length : Int), 0, L) := by
  unfold f125
  rw [plist_items] at hx ⊢
  rw [f156_vint L.length (items L) hL hx, some_bind, if_neg (by simp), jn_eq]
  exact f125_L0_items (vint L.length ++ items L) hx ((L.length : Int), ((vint L.length).length : Int), 0) _ L rfl L (vint L.length) [] FUEL hs rfl rfl (Nat.zero_le _) (fuel_lt (by omega))
 unfold f96
 rw [h119]
 rfl
open Go
abbrev Ent := Int × Int × List Ss × Int
def errE : Ent := ((0 : Int), (0 : Int), [], (2 : Int))
def joinW : List UInt8 := [106, 111, 105, 110]
def flt (l : List Ss) : List (List UInt8) := l.flatMap fun q => [Lib.itoa q.1, Lib.itoa q.2.1, q.2.2]
def strs (k c : Int) (l : List Ss) : List (List UInt8) := if k = 2 then [joinW, Lib.itoa c] else if k = 3 then [cs1] else cs2 :: flt l
def okAt (l : List Ss) (i : Nat) : Bool := good (l.getD i default) && !((l.take i).any fun p => p.1 == (l.getD i default).1 && p.2.1 == (l.getD i default).2.1)
def okRs (l : List Ss) : Prop := ∀ i, i < l.length → okAt l i = true
def okE (k c : Int) (l : List Ss) : Prop := (k = 1 ∧ c = 0 ∧ l.length ≤ 8 ∧ okRs l) ∨ (k = 2 ∧ 0 ≤ c ∧ c < 6 ∧ l = []) ∨ (k = 3 ∧ c = 0 ∧ l = [])
theorem good_iff (c n : Int) (op : List UInt8) : good (c, n, op) = true ↔ (0 ≤ c ∧ c < 6 ∧ 1 ≤ n ∧ n ≤ 1000000 ∧ op ≠ [] ∧ op.length ≤ 200) := by
 unfold good
 simp only [Bool.and_eq_true, decide_eq_true_eq, Bool.not_eq_true', beq_eq_false_iff_ne]
 constructor
 ·rintro ⟨⟨⟨⟨⟨h1, h2⟩, h3⟩, h4⟩, h5⟩, h6⟩
  exact ⟨h1, h2, h3, h4, h5, by omega⟩
 ·rintro ⟨h1, h2, h3, h4, h5, h6⟩
  exact ⟨⟨⟨⟨⟨h1, h2⟩, h3⟩, h4⟩, h5⟩, by omega⟩
theorem okRs_mem {l : List Ss} (h : okRs l) : ∀ q, q ∈ l → good q = true := by
 intro q hq
 obtain ⟨i, hi, rfl⟩ := List.mem_iff_getElem.1 hq
 have := h i hi
 unfold okAt at this
 simp only [Bool.and_eq_true] at this
 have e : l.getD i default = l[i] := by simp [List.getD_eq_getElem?_getD, hi]
 rw [e] at this
 exact this.1
theorem flt_len (l : List Ss) : (flt l).length = 3 * l.length := by
 unfold flt
 induction l with
 | nil => rfl
 | cons a l ih => simp [ih]; omega
theorem flt_cons (q : Ss) (l : List Ss) : flt (q :: l) = Lib.itoa q.1 :: Lib.itoa q.2.1 :: q.2.2 :: flt l := rfl
theorem itoa1 (n : Int) (h0 : 0 ≤ n) (h1 : n < 10) : (Lib.itoa n).length = 1 := by
 rw [Lib.itoa, if_neg (by omega), Lib.decDigits, dif_pos (by omega)]
 rfl
theorem flt_small {l : List Ss} (h : ∀ q, q ∈ l → good q = true) : ∀ s, s ∈ flt l → s.length ≤ 200 := by
 intro s hs
 unfold flt at hs
 obtain ⟨q, hq, hs⟩ := List.mem_flatMap.1 hs
 have hg := good_of (h q hq)
 simp only [List.mem_cons, List.not_mem_nil, or_false] at hs
 rcases hs with rfl | rfl | rfl
 ·have := itoa1 q.1 (by omega) (by omega); omega
 ·have := itoa_len7 q.2.1 (by omega) (by omega); omega
 ·omega
theorem strs_small {k c : Int} {l : List Ss} (h : okE k c l) : (∀ s, s ∈ strs k c l → s.length ≤ 200) ∧ (strs k c l).length ≤ 25 ∧ 0 < (strs k c l).length := by
 rcases h with ⟨rfl, rfl, h1, h2⟩ | ⟨rfl, h1, h2, rfl⟩ | ⟨rfl, rfl, rfl⟩
 ·rw [strs, if_neg (by decide), if_neg (by decide)]
  refine ⟨fun s hs => ?_, by rw [List.length_cons, flt_len]; omega, by simp⟩
  rcases List.mem_cons.1 hs with rfl | hs
  ·decide
  ·exact flt_small (okRs_mem h2) s hs
 ·rw [strs, if_pos rfl]
  refine ⟨fun s hs => ?_, by simp, by simp⟩
  simp only [List.mem_cons, List.not_mem_nil, or_false] at hs
  rcases hs with rfl | rfl
  ·decide
  ·have := itoa1 c (by omega) (by omega); omega
 ·rw [strs, if_neg (by decide), if_pos rfl]
  exact ⟨fun s hs => by simp only [List.mem_singleton] at hs; subst hs; decide, by simp, by simp⟩
theorem items_len (L : List (List UInt8)) (b : Nat) (hb : b < 16384) (h : ∀ s, s ∈ L → s.length ≤ b) : (items L).length ≤ L.length * (b + 2) := by
 induction L with
 | nil => simp [items]
 | cons s L ih =>
  have h1 := ih fun t ht => h t (List.mem_cons_of_mem _ ht)
  have h2 := h s (List.mem_cons_self ..)
  have h3 := vint_len 1 s.length (by omega)
  rw [items_cons, List.length_append, item, List.length_append, List.length_cons, Nat.add_mul]
  omega
theorem plist_len (L : List (List UInt8)) (b : Nat) (hb : b < 16384) (hl : L.length < 16384) (h : ∀ s, s ∈ L → s.length ≤ b) : (plist L).length ≤ 2 + L.length * (b + 2) := by
 have h1 := items_len L b hb h
 have h2 := vint_len 1 L.length (by omega)
 rw [plist_items, List.length_append]
 omega
theorem flt_items {l : List Ss} (h : ∀ q, q ∈ l → good q = true) : (items (flt l)).length ≤ l.length * 212 := by
 induction l with
 | nil => simp [items, flt]
 | cons q l ih =>
  have h1 := ih fun t ht => h t (List.mem_cons_of_mem _ ht)
  have hg := good_of (h q (List.mem_cons_self ..))
  have a1 := itoa1 q.1 (by omega) (by omega)
  have a2 := itoa_len7 q.2.1 (by omega) (by omega)
  have v1 := vint_len 0 (Lib.itoa q.1).length (by omega)
  have v2 := vint_len 0 (Lib.itoa q.2.1).length (by omega)
  have v3 := vint_len 1 q.2.2.length (by omega)
  rw [flt_cons, items_cons, items_cons, items_cons]
  simp only [List.length_append, item, List.length_cons]
  omega
theorem val_len {k c : Int} {l : List Ss} (h : okE k c l) : (plist (strs k c l)).length ≤ 2000 := by
 rcases h with ⟨rfl, rfl, h1, h2⟩ | ⟨rfl, h1, h2, rfl⟩ | ⟨rfl, rfl, rfl⟩
 ·rw [strs, if_neg (by decide), if_neg (by decide), plist_items, items_cons]
  have := flt_items (okRs_mem h2)
  have hl : (cs2 :: flt l).length = 1 + 3 * l.length := by rw [List.length_cons, flt_len]; omega
  have v := vint_len 0 (cs2 :: flt l).length (by omega)
  have e : (item cs2).length = 6 := by
   have : cs2.length = 5 := rfl
   rw [item, List.length_append, this, vint_lt (by decide)]
   rfl
  simp only [List.length_append]
  omega
 ·rw [strs, if_pos rfl]
  have := plist_len [joinW, Lib.itoa c] 200 (by omega) (by simp) (fun s hs => by
   simp only [List.mem_cons, List.not_mem_nil, or_false] at hs
   rcases hs with rfl | rfl
   ·decide
   ·have := itoa1 c (by omega) (by omega); omega)
  simp only [List.length_cons, List.length_nil] at this
  omega
 ·rw [strs, if_neg (by decide), if_pos rfl]
  have := plist_len [cs1] 200 (by omega) (by simp) (fun s hs => by simp only [List.mem_singleton] at hs; subst hs; decide)
  simp only [List.length_cons, List.length_nil] at this
  omega
theorem f100_L0_eq (x : List Ss) (hl : x.length ≤ 1000000) (c m : Int) (s : List UInt8) (K : Int × Int × List UInt8 → Option (Int × Int × Int × List UInt8)) : ∀ (d k n : Nat), n + d = x.length → d < k →
  ((x.drop n).any (fun p => p.1 == c && p.2.1 == m) = true → ∃ i : Nat, f100_L0 x K k (n, c, m, s) = some ((i : Int), c, m, s)) ∧ ((x.drop n).any (fun p => p.1 == c && p.2.1 == m) = false → f100_L0 x K k (n, c, m, s) = K (c, m, s))
 | 0, k, n, hn, hk => by
  obtain ⟨k, rfl⟩ : ∃ z, k = z + 1 := ⟨k - 1, by omega⟩
  rw [List.drop_eq_nil_of_le (by omega)]
  refine ⟨fun h => by simp at h, fun _ => ?_⟩
  conv => lhs; unfold f100_L0
  rw [ifd_neg (by omega)]
 | d + 1, k, n, hn, hk => by
  obtain ⟨k, rfl⟩ : ∃ z, k = z + 1 := ⟨k - 1, by omega⟩
  obtain ⟨i1, i2⟩ := f100_L0_eq x hl c m s K d k (n + 1) (by omega) (by omega)
  have e : f100_L0 x K (k + 1) (n, c, m, s) = if ((x.getD n default).1 == c && (x.getD n default).2.1 == m) = true then some ((n : Int), c, m, s) else f100_L0 x K k (n + 1, c, m, s) := by
   conv => lhs; unfold f100_L0
   rw [ifd_pos (by omega)]
   unfold f196 f197
   simp only [some_bind]
   rw [chk_pos (by omega), chk_pos (by omega)]
  rw [e, getD_drop x n default (by omega), List.any_cons]
  cases h : ((x.getD n default).1 == c && (x.getD n default).2.1 == m)
  ·simp only [Bool.false_or, Bool.false_eq_true, if_false]
   exact ⟨i1, i2⟩
  ·refine ⟨fun _ => ⟨n, by simp⟩, fun h => by simp at h⟩
theorem f162_eq (x : List Ss) (hl : x.length ≤ 1000000) (c m : Int) (s : List UInt8) : f162 x c m s = some (x.any (fun p => p.1 == c && p.2.1 == m)) := by
 unfold f162 f69 f100
 rw [jn_eq]
 obtain ⟨h1, h2⟩ := f100_L0_eq x hl c m s (fun ((i10, i11, s12) : Tq2) => some ((-1 : Int), i10, i11, s12)) x.length FUEL 0 (by omega) (fuel_lt (by omega))
 rw [List.drop_zero] at h1 h2
 cases h : x.any (fun p => p.1 == c && p.2.1 == m)
 ·rw [h2 h]
  rfl
 ·obtain ⟨i, hi⟩ := h1 h
  rw [hi]
  simp
theorem f129_L0_eq (x : List Ss) (hl : x.length ≤ 1000000) : ∀ (d k n : Nat), n + d = x.length → d < k → ∃ v, f129_L0 x (fun _ => some 0) k n = some v ∧ (v = 0 ↔ ∀ i, n ≤ i → i < x.length → okAt x i = true)
 | 0, k, n, hn, hk => by
  obtain ⟨k, rfl⟩ : ∃ z, k = z + 1 := ⟨k - 1, by omega⟩
  refine ⟨0, ?_, by simp; omega⟩
  conv => lhs; unfold f129_L0
  rw [ifd_neg (by omega)]
 | d + 1, k, n, hn, hk => by
  obtain ⟨k, rfl⟩ : ∃ z, k = z + 1 := ⟨k - 1, by omega⟩
  obtain ⟨v, hv, hi⟩ := f129_L0_eq x hl d k (n + 1) (by omega) (by omega)
  have hg := good_iff (x.getD n default).1 (x.getD n default).2.1 (x.getD n default).2.2
  have bad : okAt x n = false → ∀ w : Int, w ≠ 0 → (w = 0 ↔ ∀ i, n ≤ i → i < x.length → okAt x i = true) := fun h w hw =>
   ⟨fun e => absurd e hw, fun h' => by have := h' n (Nat.le_refl _) (by omega); rw [h] at this; cases this⟩
  have gbad : good (x.getD n default) ≠ true → okAt x n = false := fun h => by
   unfold okAt
   simp only [Bool.not_eq_true] at h
   rw [h, Bool.false_and]
  conv => enter [1, v, 1, 1]; unfold f129_L0
  rw [ifd_pos (by omega), chk_pos (by omega)]
  generalize hq : x.getD n default = q at *
  by_cases h1 : 0 ≤ q.1 ∧ q.1 < 6 ∧ 1 ≤ q.2.1 ∧ q.2.1 ≤ 1000000
  ·rw [if_neg (by simp; omega)]
   by_cases h2 : q.2.2 = []
   ·rw [if_pos (by simp [h2])]
    exact ⟨_, rfl, bad (gbad fun h => (hg.1 h).2.2.2.2.1 h2) _ (by decide)⟩
   ·rw [if_neg (by simpa using h2)]
    by_cases h3 : q.2.2.length ≤ 200
    ·rw [ifd_neg (by omega), f162_eq _ (by rw [List.length_take]; omega), some_bind, chk_pos (by omega)]
     have hgd : good q = true := hg.2 ⟨h1.1, h1.2.1, h1.2.2.1, h1.2.2.2, h2, h3⟩
     cases ha : (x.take n).any (fun p => p.1 == q.1 && p.2.1 == q.2.1)
     ·rw [if_neg (by simp), chk_pos (by omega)]
      refine ⟨v, hv, hi.trans ⟨fun h i h4 h5 => ?_, fun h i h4 h5 => h i (by omega) h5⟩⟩
      by_cases hin : i = n
      ·subst hin
       unfold okAt
       rw [hq, hgd, ha]
       rfl
      ·exact h i (by omega) h5
     ·rw [if_pos rfl]
      exact ⟨_, rfl, bad (by unfold okAt; rw [hq, ha]; simp) _ (by decide)⟩
    ·rw [ifd_pos (by omega)]
     exact ⟨_, rfl, bad (gbad fun h => h3 (hg.1 h).2.2.2.2.2) _ (by decide)⟩
  ·rw [if_pos (by simp; omega)]
   exact ⟨_, rfl, bad (gbad fun h => h1 (by have := hg.1 h; omega)) _ (by decide)⟩
theorem f98_eq (k c : Int) (l : List Ss) (hl : l.length ≤ 1000000) : ∃ v, f98 k c l = some v ∧ (v = 0 ↔ okE k c l) := by
 unfold f98 okE
 by_cases h1 : k = 1
 ·subst h1
  rw [if_pos (by decide)]
  by_cases hc : c = 0
  ·rw [if_neg (by simp [hc])]
   by_cases h8 : l.length ≤ 8
   ·rw [ifd_neg (by omega)]
    obtain ⟨v, hv, hi⟩ := f129_L0_eq l hl l.length FUEL 0 (by omega) (fuel_lt (by omega))
    have h136 : f129 l = some v := by
     unfold f129
     rw [jn_eq]
     exact hv
    rw [h136]
    refine ⟨v, rfl, hi.trans ⟨fun h => .inl ⟨rfl, hc, h8, fun i h2 => h i (Nat.zero_le _) h2⟩, ?_⟩⟩
    rintro (⟨_, _, _, h⟩ | ⟨h, _⟩ | ⟨h, _⟩)
    ·exact fun i _ h2 => h i h2
    ·omega
    ·omega
   ·rw [ifd_pos (by omega)]
    exact ⟨_, rfl, by simp; omega⟩
  ·rw [if_pos (by simpa using hc)]
   exact ⟨_, rfl, by simp; omega⟩
 ·rw [if_neg (by simpa using h1)]
  have hn : l = [] ↔ l.length = 0 := List.length_eq_zero_iff.symm
  by_cases h2 : k = 2
  ·subst h2
   rw [if_pos (by decide)]
   by_cases h3 : 0 ≤ c ∧ c < 6 ∧ l = []
   ·rw [if_neg (by rw [h3.2.2]; simp; omega)]
    exact ⟨_, rfl, by simp [h3]⟩
   ·rw [if_pos (by rw [hn] at h3; simp only [Bool.or_eq_true, decide_eq_true_eq]; omega)]
    exact ⟨_, rfl, fun h => absurd h (by decide), fun h => by
     rcases h with ⟨h, _⟩ | ⟨_, h5, h6, h7⟩ | ⟨h, _⟩
     ·omega
     ·exact absurd ⟨h5, h6, h7⟩ h3
     ·omega⟩
  ·rw [if_neg (by simpa using h2)]
   by_cases h3 : k = 3
   ·subst h3
    rw [if_pos (by decide)]
    by_cases h4 : c = 0 ∧ l = []
    ·rw [if_neg (by rw [h4.2]; simp; omega)]
     exact ⟨_, rfl, by simp [h4]⟩
    ·rw [if_pos (by rw [hn] at h4; simp only [Bool.or_eq_true, bne_iff_ne, decide_eq_true_eq]; omega)]
     exact ⟨_, rfl, fun h => absurd h (by decide), fun h => by
      rcases h with ⟨h, _⟩ | ⟨h, _⟩ | ⟨_, h5, h6⟩
      ·omega
      ·omega
      ·exact absurd ⟨h5, h6⟩ h4⟩
   ·rw [if_neg (by simpa using h3)]
    exact ⟨_, rfl, by simp; omega⟩
theorem f58_eq (n : Int) (h : -9223372036854775808 ≤ n ∧ n ≤ 9223372036854775807) : f58 n = some (Lib.itoa n) := by
 unfold f58 itoaO
 rw [if_pos h]
theorem f130_eq (L : List (List UInt8)) (h : (plist L).length ≤ 1000000) (hl : L.length ≤ 1000000) : f130 L = some (plist L) := by
 unfold f130 plistO
 rw [if_pos (by omega)]
theorem f99_L0_eq (x : List Ss) (hl : x.length ≤ 8) (hx : ∀ q, q ∈ x → good q = true) (K : List (List UInt8) → Option (List UInt8)) : ∀ (d k n : Nat) (a : List (List UInt8)), n + d = x.length → d < k → a.length ≤ 1 + 3 * n → f99_L0 x K k (n, a) = K (a ++ flt (x.drop n))
 | 0, k, n, a, hn, hk, ha => by
  obtain ⟨k, rfl⟩ : ∃ z, k = z + 1 := ⟨k - 1, by omega⟩
  rw [List.drop_eq_nil_of_le (by omega)]
  conv => lhs; unfold f99_L0
  rw [ifd_neg (by omega)]
  simp [flt]
 | d + 1, k, n, a, hn, hk, ha => by
  obtain ⟨k, rfl⟩ : ∃ z, k = z + 1 := ⟨k - 1, by omega⟩
  have hg := good_of (hx _ (getD_mem x n default (by omega)))
  have ih := f99_L0_eq x hl hx K d k (n + 1) (a ++ [Lib.itoa (x.getD n default).1, Lib.itoa (x.getD n default).2.1, (x.getD n default).2.2]) (by omega) (by omega) (by simp; omega)
  conv => lhs; unfold f99_L0
  rw [ifd_pos (by omega), chk_pos (by omega), f58_eq _ (by omega), some_bind, f58_eq _ (by omega), some_bind, chk_pos (by omega), chk_pos (by omega), ih, getD_drop x n default (by omega), flt_cons]
  simp
theorem f99_eq {k c : Int} {l : List Ss} (h : okE k c l) : f99 k c l = some (plist (strs k c l)) := by
 have hl := val_len h
 have hs := strs_small h
 rcases h with ⟨rfl, rfl, h1, h2⟩ | ⟨rfl, h1, h2, rfl⟩ | ⟨rfl, rfl, rfl⟩
 ·have e : strs 1 0 l = cs2 :: flt l := by rw [strs, if_neg (by decide), if_neg (by decide)]
  rw [e] at hl hs ⊢
  unfold f99
  rw [if_neg (by decide), if_neg (by decide), jn_eq, f99_L0_eq l h1 (okRs_mem h2) _ l.length FUEL 0 [cs2] (by omega) (fuel_lt (by omega)) (by simp), List.drop_zero]
  rw [List.singleton_append, f130_eq _ (by omega) (by omega)]
  rfl
 ·have e : strs 2 c [] = [joinW, Lib.itoa c] := by rw [strs, if_pos rfl]
  rw [e] at hl hs ⊢
  unfold f99
  rw [if_pos (by decide), f58_eq _ (by omega), some_bind]
  have := f130_eq [joinW, Lib.itoa c] (by omega) (by omega)
  unfold joinW at this ⊢
  rw [this]
  rfl
 ·have e : strs 3 0 [] = [cs1] := by rw [strs, if_neg (by decide), if_pos rfl]
  rw [e] at hl hs ⊢
  unfold f99
  rw [if_neg (by decide), if_pos (by decide), f130_eq _ (by omega) (by omega)]
  rfl
open Classical in
theorem tail_eq (x : List UInt8) (n c : Int) (l : List Ss) (hl : l.length ≤ 1000000) :
  ((f98 n c l).bind fun (r11 : Int) =>
   optc ((r11 != (0 : Int)) == false) (f99 n c l) fun (r12 : List UInt8) =>
   if ((r11 != (0 : Int)) || (!(r12 == x))) then some ((0 : Int), (0 : Int), ([] : List Ss), (2 : Int)) else some (n, c, l, (0 : Int))) = some (if okE n c l ∧ plist (strs n c l) = x then (n, c, l, 0) else errE) := by
 obtain ⟨v, hv, hi⟩ := f98_eq n c l hl
 rw [hv, some_bind]
 by_cases h : v = 0
 ·have hE := hi.1 h
  subst h
  rw [f99_eq hE]
  rw [show (((0 : Int) != 0) == false) = true from rfl, optc_t, some_bind]
  by_cases he : plist (strs n c l) = x
  ·rw [if_neg (by simp [he]), if_pos ⟨hE, he⟩]
  ·rw [if_pos (by simp [he]), if_neg (fun h => he h.2)]
   rfl
 ·have hE : ¬ okE n c l := fun hE => h (hi.2 hE)
  have e : ((v != (0 : Int)) == false) = false := by simpa using h
  rw [e, optc_f, if_pos (by simp [h]), if_neg (fun h => hE h.1)]
  rfl
open Go
theorem f68_L0_some (K : Nat × Int × List Ss → Option Ent) : ∀ (d k : Nat) (L : List (List UInt8)) (a : List Ss), L.length ≤ d → d < k → (∀ s, s ∈ L → s.length ≤ 1000000) → L.length ≤ 1000000 → a.length + L.length ≤ 1000000 → ∃ l, l.length ≤ 1000000 ∧ f68_L0 K k (L, a) = K (1, 0, l) := by
 intro d
 induction d with
 | zero =>
  intro k L a hL hk _ _ ha
  obtain ⟨k, rfl⟩ : ∃ z, k = z + 1 := ⟨k - 1, by omega⟩
  refine ⟨a, by omega, ?_⟩
  conv => lhs; unfold f68_L0
  rw [ifd_neg (by omega)]
 | succ d ih =>
  intro k L a hL hk hs hl ha
  obtain ⟨k, rfl⟩ : ∃ z, k = z + 1 := ⟨k - 1, by omega⟩
  by_cases h3 : 3 ≤ L.length
  ·obtain ⟨v0, b0, h0, _⟩ := atoiO_some (L.getD 0 []) (by have := hs _ (getD_mem L 0 [] (by omega)); omega)
   obtain ⟨v1, b1, h1, _⟩ := atoiO_some (L.getD 1 []) (by have := hs _ (getD_mem L 1 [] (by omega)); omega)
   obtain ⟨l, hl2, h⟩ := ih k (L.drop 3) (a ++ [(v0, v1, L.getD 2 [])]) (by rw [List.length_drop]; omega) (by omega) (fun s hs' => hs s (List.mem_of_mem_drop hs')) (by rw [List.length_drop]; omega) (by rw [List.length_drop, List.length_append]; simp only [List.length_singleton]; omega)
   refine ⟨l, hl2, ?_⟩
   conv => lhs; unfold f68_L0
   unfold f97
   rw [ifd_pos (by omega), h0, some_bind, chk_pos (by omega), h1, some_bind, chk_pos (by omega), chk_pos (by omega), chk_pos (by omega), chk_pos (by omega)]
   exact h
  ·refine ⟨a, by omega, ?_⟩
   conv => lhs; unfold f68_L0
   rw [ifd_neg (by omega)]
theorem f68_L0_flt (K : Nat × Int × List Ss → Option Ent) : ∀ (l a : List Ss) (k : Nat), l.length < k → (∀ q, q ∈ l → good q = true) → a.length + l.length ≤ 1000 → f68_L0 K k (flt l, a) = K (1, 0, a ++ l)
 | [], a, k, hk, _, _ => by
  obtain ⟨k, rfl⟩ : ∃ z, k = z + 1 := ⟨k - 1, by omega⟩
  conv => lhs; unfold f68_L0
  rw [ifd_neg (by simp [flt]), List.append_nil]
 | (c, n, s) :: l, a, k, hk, hg, ha => by
  obtain ⟨k, rfl⟩ : ∃ z, k = z + 1 := ⟨k - 1, by omega⟩
  simp only [List.length_cons] at hk ha
  have h := good_of (hg _ (List.mem_cons_self ..))
  simp only at h
  have ih := f68_L0_flt K l (a ++ [(c, n, s)]) k (by omega) (fun q hq => hg q (List.mem_cons_of_mem _ hq)) (by simp; omega)
  conv => lhs; unfold f68_L0
  unfold f97
  rw [flt_cons]
  simp only [List.getD_cons_zero, List.getD_cons_succ, List.length_cons, List.drop_succ_cons, List.drop_zero]
  rw [ifd_pos (by omega), atoiO_itoa c (by omega) (by omega), some_bind, chk_pos (by omega), atoiO_itoa n (by omega) (by omega), some_bind, chk_pos (by omega), chk_pos (by omega), chk_pos (by omega), chk_pos (by omega), ih]
  simp
open Classical in
theorem f68_hit {k c : Int} {l : List Ss} (h : okE k c l) : f68 (plist (strs k c l)) = some (k, c, l, 0) := by
 have hl := val_len h
 have hs := strs_small h
 have h84 := f96_plist (strs k c l) (by omega) (fun s hs' => by have := hs.1 s hs'; omega) (by omega)
 have key : ∀ n : Nat, k = (n : Int) → l.length ≤ 1000000 → ((f98 (n : Int) c l).bind fun (r11 : Int) =>
   optc ((r11 != (0 : Int)) == false) (f99 (n : Int) c l) fun (r12 : List UInt8) =>
   if ((r11 != (0 : Int)) || (!(r12 == plist (strs k c l)))) then some ((0 : Int), (0 : Int), ([] : List Ss), (2 : Int)) else some ((n : Int), c, l, (0 : Int))) = some (k, c, l, 0) := by
  intro n hn hl1
  subst hn
  rw [tail_eq _ _ _ _ hl1, if_pos ⟨h, rfl⟩]
 unfold f68
 rw [h84, some_bind]
 dsimp only
 rw [if_neg (by simp; intro e; rw [e] at hs; simp at hs), chk_pos (by omega), jn_eq, chk_pos (by omega)]
 rcases h with ⟨rfl, rfl, h1, h2⟩ | ⟨rfl, h1, h2, rfl⟩ | ⟨rfl, rfl, rfl⟩
 ·have e : strs 1 0 l = cs2 :: flt l := by rw [strs, if_neg (by decide), if_neg (by decide)]
  generalize hx : plist (strs 1 0 l) = x at *
  rw [e] at *
  rw [if_neg (by simp; intro h; exact absurd h (by decide)), chk_pos (by simp), if_neg (by simp; decide), List.drop_succ_cons, List.drop_zero]
  rw [f68_L0_flt _ l [] FUEL (fuel_lt (by omega)) (okRs_mem h2) (by simp; omega), List.nil_append]
  exact key 1 rfl (by omega)
 ·have e : strs 2 c [] = [joinW, Lib.itoa c] := by rw [strs, if_pos rfl]
  generalize hx : plist (strs 2 c []) = x at *
  rw [e] at *
  unfold f97
  rw [if_pos (by rfl)]
  simp only [List.drop_succ_cons, List.drop_zero, List.getD_cons_zero]
  rw [atoiO_itoa c (by omega) (by omega), some_bind, chk_pos (by simp)]
  exact key 2 rfl (by simp)
 ·have e : strs 3 0 [] = [cs1] := by rw [strs, if_neg (by decide), if_pos rfl]
  generalize hx : plist (strs 3 0 []) = x at *
  rw [e] at *
  rw [if_neg (by decide), chk_pos (by simp), if_pos (by rfl)]
  exact key 3 rfl (by simp)
open Classical in
theorem f68_miss (x : List UInt8) (hx : x.length ≤ 1000000) (h : ∀ k c l, okE k c l → plist (strs k c l) ≠ x) : f68 x = some errE := by
 obtain ⟨j, e, L, h84, hs, hl⟩ := f96_some x hx
 have key : ∀ (n : Nat) c l, l.length ≤ 1000000 → ((f98 (n : Int) c l).bind fun (r11 : Int) =>
   optc ((r11 != (0 : Int)) == false) (f99 (n : Int) c l) fun (r12 : List UInt8) =>
   if ((r11 != (0 : Int)) || (!(r12 == x))) then some ((0 : Int), (0 : Int), ([] : List Ss), (2 : Int)) else some ((n : Int), c, l, (0 : Int))) = some errE := by
  intro n c l hl1
  rw [tail_eq _ _ _ _ hl1, if_neg (fun hh => h _ _ _ hh.1 hh.2)]
 unfold f68
 rw [h84, some_bind]
 dsimp only
 by_cases h0 : ((e != 0) || (((L.length : Nat) : Int) == 0)) = true
 ·rw [if_pos h0]
  rfl
 ·have hL : 1 ≤ L.length := by
   simp only [Bool.or_eq_true, bne_iff_ne, beq_iff_eq] at h0
   omega
  rw [if_neg h0, chk_pos (by omega), jn_eq, chk_pos (by omega)]
  by_cases h1 : ((L.getD 0 [] == ([106, 111, 105, 110] : List UInt8)) && ((((L.drop 1).length : Nat) : Int) == 1)) = true
  ·rw [if_pos h1]
   have h1' : (L.drop 1).length = 1 := by
    simp only [Bool.and_eq_true, beq_iff_eq] at h1
    omega
   obtain ⟨v0, b0, h0, _⟩ := atoiO_some ((L.drop 1).getD 0 []) (by have := hs _ (List.mem_of_mem_drop (getD_mem (L.drop 1) 0 [] (by omega))); omega)
   unfold f97
   rw [h0, some_bind, chk_pos (by omega)]
   exact key 2 _ _ (by simp)
  ·rw [if_neg h1, chk_pos (by omega)]
   by_cases h2 : (L.getD 0 [] == cs1) = true
   ·rw [if_pos h2]
    exact key 3 _ _ (by simp)
   ·rw [if_neg h2]
    obtain ⟨l, hl2, e2⟩ := f68_L0_some _ (L.drop 1).length FUEL (L.drop 1) [] (Nat.le_refl _) (fuel_lt (by rw [List.length_drop]; omega)) (fun s hs' => by have := hs s (List.mem_of_mem_drop hs'); omega) (by rw [List.length_drop]; omega) (by rw [List.length_drop]; simp; omega)
    rw [e2]
    exact key 1 _ _ hl2
open Go
theorem f121_vint (n : Nat) (hn : n < 16384) : f121 FUEL (n : Int) = some (vint n) := by
 obtain ⟨k, hk⟩ : ∃ k, FUEL = k + 2 := ⟨FUEL - 2, by unfold FUEL; omega⟩
 rw [hk]
 by_cases h : n < 128
 ·rw [f121_small n h (k + 1), vint_lt h]
 ·have e1 : (n : Int) / 128 = ((n / 128 : Nat) : Int) := by omega
  conv => lhs; unfold f121
  rw [ifd_neg (by omega), e1, f121_small (n / 128) (by omega) k, some_bind, chk_pos (by omega), chk_pos (by omega), chk_pos (by omega), chk_pos (by omega), chk_pos (by simp), vint_ge h, vint_lt (show n / 128 < 128 by omega)]
  have e2 : ((n : Int) % 128 + 128).toNat = n % 128 + 128 := by omega
  rw [e2]
  rfl
theorem f87_L0_eq (x : List (List UInt8)) (hx : ∀ s, s ∈ x → s.length ≤ 200) (hl : x.length ≤ 25) (K : List UInt8 → Option (List UInt8)) : ∀ c k n s, n + c = x.length → c < k → s.length ≤ 2 + 202 * n → f87_L0 x K k (s, n) = K (s ++ items (x.drop n))
 | 0, k, n, s, hn, hk, hs => by
  obtain ⟨k, rfl⟩ : ∃ z, k = z + 1 := ⟨k - 1, by omega⟩
  rw [List.drop_eq_nil_of_le (by omega)]
  conv => lhs; unfold f87_L0
  rw [ifd_neg (by omega)]
  simp [items]
 | c + 1, k, n, s, hn, hk, hs => by
  obtain ⟨k, rfl⟩ : ∃ z, k = z + 1 := ⟨k - 1, by omega⟩
  have hxn := hx _ (getD_mem x n [] (by omega))
  have hv := vint_len 1 (x.getD n []).length (by omega)
  have hsl : (s ++ vint (x.getD n []).length).length = s.length + (vint (x.getD n []).length).length := List.length_append
  have hsl2 : ((s ++ vint (x.getD n []).length) ++ x.getD n []).length = s.length + (vint (x.getD n []).length).length + (x.getD n []).length := by rw [List.length_append, List.length_append]
  have ih := f87_L0_eq x hx hl K c k (n + 1) ((s ++ vint (x.getD n []).length) ++ x.getD n []) (by omega) (by omega) (by omega)
  conv => lhs; unfold f87_L0
  rw [ifd_pos (by omega), f121_vint _ (by omega), some_bind, chk_pos (by omega), chk_pos (by omega), chk_pos (by omega), chk_pos (by omega), chk_pos (by omega), ih, getD_drop x n [] (by omega), items_cons]
  simp [item]
theorem f87_eq (x : List (List UInt8)) (hx : ∀ s, s ∈ x → s.length ≤ 200) (hl : x.length ≤ 25) : f87 x = some (plist x) := by
 have hv := vint_len 1 x.length (by omega)
 unfold f87
 rw [f121_vint _ (by omega), some_bind, jn_eq]
 exact f87_L0_eq x hx hl (fun s6 => some s6) x.length FUEL 0 (vint x.length) (by omega) (fuel_lt (by omega)) (by omega)
theorem f65_L0_eq (x : List Ss) (hl : x.length ≤ 8) (hx : ∀ q, q ∈ x → good q = true) (K : List (List UInt8) → Option (List UInt8)) : ∀ (d k n : Nat) (a : List (List UInt8)), n + d = x.length → d < k → a.length ≤ 1 + 3 * n → f65_L0 x K k (n, a) = K (a ++ flt (x.drop n))
 | 0, k, n, a, hn, hk, ha => by
  obtain ⟨k, rfl⟩ : ∃ z, k = z + 1 := ⟨k - 1, by omega⟩
  rw [List.drop_eq_nil_of_le (by omega)]
  conv => lhs; unfold f65_L0
  rw [ifd_neg (by omega)]
  simp [flt]
 | d + 1, k, n, a, hn, hk, ha => by
  obtain ⟨k, rfl⟩ : ∃ z, k = z + 1 := ⟨k - 1, by omega⟩
  have hg := good_of (hx _ (getD_mem x n default (by omega)))
  have ih := f65_L0_eq x hl hx K d k (n + 1) (a ++ [Lib.itoa (x.getD n default).1, Lib.itoa (x.getD n default).2.1, (x.getD n default).2.2]) (by omega) (by omega) (by simp; omega)
  conv => lhs; unfold f65_L0
  rw [ifd_pos (by omega), chk_pos (by omega), dig116 (by omega) (by omega), some_bind, dig116 (by omega) (by omega), some_bind, chk_pos (by omega), chk_pos (by omega), ih, getD_drop x n default (by omega), flt_cons]
  simp
theorem f65_eq {k c : Int} {l : List Ss} (h : okE k c l) : f65 k c l = some (plist (strs k c l)) := by
 have hs := strs_small h
 rcases h with ⟨rfl, rfl, h1, h2⟩ | ⟨rfl, h1, h2, rfl⟩ | ⟨rfl, rfl, rfl⟩
 ·have e : strs 1 0 l = cs2 :: flt l := by rw [strs, if_neg (by decide), if_neg (by decide)]
  rw [e] at hs ⊢
  unfold f65
  rw [if_neg (by decide), if_neg (by decide), jn_eq, f65_L0_eq l h1 (okRs_mem h2) _ l.length FUEL 0 [cs2] (by omega) (fuel_lt (by omega)) (by simp), List.drop_zero]
  rw [List.singleton_append, f87_eq _ hs.1 hs.2.1]
  rfl
 ·have e : strs 2 c [] = [joinW, Lib.itoa c] := by rw [strs, if_pos rfl]
  rw [e] at hs ⊢
  unfold f65
  rw [if_pos (by decide), dig116 (by omega) (by omega), some_bind]
  have := f87_eq [joinW, Lib.itoa c] hs.1 hs.2.1
  unfold joinW at this ⊢
  rw [this]
  rfl
 ·have e : strs 3 0 [] = [cs1] := by rw [strs, if_neg (by decide), if_pos rfl]
  rw [e] at hs ⊢
  unfold f65
  rw [if_neg (by decide), if_pos (by decide), f87_eq _ hs.1 hs.2.1]
  rfl
theorem f120_L0_eq (x : List Ss) (hl : x.length ≤ 1000000) (c m : Int) (s : List UInt8) : ∀ (d k n : Nat), n + d = x.length → d < k → f120_L0 x c m s (fun _ => some false) k n = some ((x.drop n).any (fun p => p.1 == c && p.2.1 == m))
 | 0, k, n, hn, hk => by
  obtain ⟨k, rfl⟩ : ∃ z, k = z + 1 := ⟨k - 1, by omega⟩
  rw [List.drop_eq_nil_of_le (by omega)]
  conv => lhs; unfold f120_L0
  rw [ifd_neg (by omega)]
  rfl
 | d + 1, k, n, hn, hk => by
  obtain ⟨k, rfl⟩ : ∃ z, k = z + 1 := ⟨k - 1, by omega⟩
  have ih := f120_L0_eq x hl c m s d k (n + 1) (by omega) (by omega)
  conv => lhs; unfold f120_L0
  unfold f149
  rw [ifd_pos (by omega), some_bind, chk_pos (by omega), chk_pos (by omega), ih, getD_drop x n default (by omega), List.any_cons]
  cases ((x.getD n default).1 == c && (x.getD n default).2.1 == m)
  ·rw [if_neg (by simp), Bool.false_or]
  ·rw [if_pos rfl, Bool.true_or]
theorem f120_eq (x : List Ss) (hl : x.length ≤ 1000000) (c m : Int) (s : List UInt8) : f120 x c m s = some (x.any (fun p => p.1 == c && p.2.1 == m)) := by
 unfold f120
 rw [jn_eq]
 exact f120_L0_eq x hl c m s x.length FUEL 0 (by omega) (fuel_lt (by omega))
theorem f119_eq (c n : Int) (op : List UInt8) : ∃ v, f119 c n op = some v ∧ (v = 0 ↔ good (c, n, op) = true) := by
 unfold f119
 rw [good_iff]
 by_cases h1 : 0 ≤ c ∧ c < 6 ∧ 1 ≤ n ∧ n ≤ 1000000
 ·rw [if_neg (by simp; omega)]
  by_cases h2 : op = []
  ·rw [if_pos (by simp [h2])]
   exact ⟨_, rfl, by simp [h2]⟩
  ·rw [if_neg (by simpa using h2)]
   by_cases h3 : op.length ≤ 200
   ·rw [ifd_neg (by omega)]
    exact ⟨_, rfl, by simp [h1, h2, h3]⟩
   ·rw [ifd_pos (by omega)]
    exact ⟨_, rfl, by simp; omega⟩
 ·rw [if_pos (by simp; omega)]
  exact ⟨_, rfl, by simp; omega⟩
theorem f86_L0_eq (x : List Ss) (hl : x.length ≤ 1000000) : ∀ (d k n : Nat), n + d = x.length → d < k → ∃ v, f86_L0 x (fun _ => some 0) k n = some v ∧ (v = 0 ↔ ∀ i, n ≤ i → i < x.length → okAt x i = true)
 | 0, k, n, hn, hk => by
  obtain ⟨k, rfl⟩ : ∃ z, k = z + 1 := ⟨k - 1, by omega⟩
  refine ⟨0, ?_, by simp; omega⟩
  conv => lhs; unfold f86_L0
  rw [ifd_neg (by omega)]
 | d + 1, k, n, hn, hk => by
  obtain ⟨k, rfl⟩ : ∃ z, k = z + 1 := ⟨k - 1, by omega⟩
  obtain ⟨v, hv, hi⟩ := f86_L0_eq x hl d k (n + 1) (by omega) (by omega)
  obtain ⟨w, hw, hg⟩ := f119_eq (x.getD n default).1 (x.getD n default).2.1 (x.getD n default).2.2
  have bad : okAt x n = false → ∀ w : Int, w ≠ 0 → (w = 0 ↔ ∀ i, n ≤ i → i < x.length → okAt x i = true) := fun h w hw =>
   ⟨fun e => absurd e hw, fun h' => by have := h' n (Nat.le_refl _) (by omega); rw [h] at this; cases this⟩
  conv => enter [1, v, 1, 1]; unfold f86_L0
  rw [ifd_pos (by omega), hw, some_bind, chk_pos (by omega)]
  by_cases h0 : w = 0
  ·have hgd : good (x.getD n default) = true := hg.1 h0
   rw [if_neg (by simpa using h0), f120_eq _ (by rw [List.length_take]; omega), some_bind, chk_pos (by omega), chk_pos (by omega)]
   cases ha : (x.take n).any (fun p => p.1 == (x.getD n default).1 && p.2.1 == (x.getD n default).2.1)
   ·rw [if_neg (by simp), chk_pos (by omega)]
    refine ⟨v, hv, hi.trans ⟨fun h i h4 h5 => ?_, fun h i h4 h5 => h i (by omega) h5⟩⟩
    by_cases hin : i = n
    ·subst hin
     unfold okAt
     rw [hgd, ha]
     rfl
    ·exact h i (by omega) h5
   ·rw [if_pos rfl]
    exact ⟨_, rfl, bad (by unfold okAt; rw [ha]; simp) _ (by decide)⟩
  ·rw [if_pos (by simpa using h0)]
   refine ⟨_, rfl, bad ?_ _ h0⟩
   have : ¬ good (x.getD n default) = true := fun h => h0 (hg.2 h)
   unfold okAt
   simp only [Bool.not_eq_true] at this
   rw [this, Bool.false_and]
theorem f64_gen (k c : Int) (l : List Ss) (hl : l.length ≤ 1000000) : ∃ v, f64 k c l = some v ∧ (v = 0 ↔ okE k c l) := by
 have hn : l = [] ↔ l.length = 0 := List.length_eq_zero_iff.symm
 unfold f64
 rw [chk_pos (by intro h1 _ h2; rw [h1, h2]; rfl), chk_pos (by intro h1 _ h2; rw [h1, h2]; rfl)]
 by_cases h1 : (k = 1 ∧ c = 0) ∨ (k = 2 ∧ 0 ≤ c ∧ c < 6 ∧ l.length = 0) ∨ (k = 3 ∧ c = 0 ∧ l.length = 0)
 ·rw [if_neg (by simp only [Bool.or_eq_true, Bool.and_eq_true, Bool.not_eq_true', beq_eq_false_iff_ne, bne_iff_ne, decide_eq_true_eq]; omega)]
  by_cases h8 : l.length ≤ 8
  ·rw [ifd_neg (by omega)]
   obtain ⟨v, hv, hi⟩ := f86_L0_eq l hl l.length FUEL 0 (by omega) (fuel_lt (by omega))
   have h73 : f86 l = some v := by
    unfold f86
    rw [jn_eq]
    exact hv
   rw [h73, some_bind]
   have hE : okE k c l ↔ v = 0 := by
    rw [hi]
    unfold okE
    rw [hn]
    constructor
    ·rintro (⟨_, _, _, h⟩ | ⟨_, _, _, h⟩ | ⟨_, _, h⟩)
     ·exact fun i _ h2 => h i h2
     ·intro i _ h2; omega
     ·intro i _ h2; omega
    ·intro h
     rcases h1 with ⟨h3, h4⟩ | h3 | h3
     ·exact .inl ⟨h3, h4, h8, fun i h2 => h i (Nat.zero_le _) h2⟩
     ·exact .inr (.inl h3)
     ·exact .inr (.inr h3)
   by_cases h0 : v = 0
   ·have hE' := hE.2 h0
    rw [if_neg (by simpa using h0), f65_eq hE', some_bind]
    have := val_len hE'
    rw [ifd_neg (by omega)]
    exact ⟨0, rfl, by simp [hE']⟩
   ·rw [if_pos (by simpa using h0)]
    exact ⟨v, rfl, hE.symm⟩
  ·rw [ifd_pos (by omega)]
   refine ⟨_, rfl, fun h => absurd h (by decide), fun h => ?_⟩
   unfold okE at h
   rw [hn] at h
   omega
 ·rw [if_pos (by simp only [Bool.or_eq_true, Bool.and_eq_true, Bool.not_eq_true', beq_eq_false_iff_ne, bne_iff_ne, decide_eq_true_eq]; omega)]
  refine ⟨_, rfl, fun h => absurd h (by decide), fun h => ?_⟩
  unfold okE at h
  rw [hn] at h
  omega
open Classical in
theorem tail2_eq (x : List UInt8) (n c : Int) (l : List Ss) (hl : l.length ≤ 1000000) :
  ((f64 n c l).bind fun (r11 : Int) =>
   optc ((r11 != (0 : Int)) == false) (f65 n c l) fun (r12 : List UInt8) =>
   if ((r11 != (0 : Int)) || (!(r12 == x))) then some ((0 : Int), (0 : Int), ([] : List Ss), (2 : Int)) else some (n, c, l, (0 : Int))) = some (if okE n c l ∧ plist (strs n c l) = x then (n, c, l, 0) else errE) := by
 obtain ⟨v, hv, hi⟩ := f64_gen n c l hl
 rw [hv, some_bind]
 by_cases h : v = 0
 ·have hE := hi.1 h
  subst h
  rw [f65_eq hE]
  rw [show (((0 : Int) != 0) == false) = true from rfl, optc_t, some_bind]
  by_cases he : plist (strs n c l) = x
  ·rw [if_neg (by simp [he]), if_pos ⟨hE, he⟩]
  ·rw [if_pos (by simp [he]), if_neg (fun h => he h.2)]
   rfl
 ·have hE : ¬ okE n c l := fun hE => h (hi.2 hE)
  have e : ((v != (0 : Int)) == false) = false := by simpa using h
  rw [e, optc_f, if_pos (by simp [h]), if_neg (fun h => hE h.1)]
  rfl
open Go
theorem f112_some (x : List UInt8) (m : Nat) (hx : x.length ≤ 1000000) : ∃ n j : Nat, f112 x (m : Int) = some ((n : Int), (j : Int)) ∧ (j = 0 ∨ (1 ≤ j ∧ j ≤ x.length ∧ n ≤ m)) := by
 have hb := fun i => (x.getD i 0).toNat_lt
 unfold f112
 by_cases h0 : x = []
 ·rw [if_pos (by simp [h0])]
  exact ⟨0, 0, rfl, .inl rfl⟩
 ·have hl : 0 < x.length := List.length_pos_iff.2 h0
  have b0 := hb 0
  have b1 := hb 1
  rw [if_neg (by simpa using h0), chk_pos (by omega), chk_pos (by omega), jn_eq]
  generalize (x.getD 0 0).toNat = a at *
  generalize (x.getD 1 0).toNat = b at *
  by_cases h1 : 128 ≤ a
  ·rw [ifd_pos (by omega)]
   by_cases h2 : x.length < 2
   ·have e : decide ((x.length : Int) < 2) = true := by simp; omega
    rw [e]
    refine ⟨0, 0, ?_, .inl rfl⟩
    simp [chk]
   ·have e : decide ((x.length : Int) < 2) = false := by simp; omega
    rw [e, chk_pos (fun _ => by omega), chk_pos (fun _ => by omega)]
    by_cases h3 : b = 0 ∨ 128 ≤ b
    ·rw [if_pos (by simp; omega)]
     exact ⟨0, 0, rfl, .inl rfl⟩
    ·rw [if_neg (by simp; omega), chk_pos (by omega), chk_pos (by omega), chk_pos (by omega), chk_pos (by omega), chk_pos (by omega)]
     dsimp only
     by_cases h4 : a - 128 + 128 * b ≤ m
     ·rw [ifd_neg (by omega)]
      exact ⟨a - 128 + 128 * b, 2, by congr 2; omega, .inr ⟨by omega, by omega, h4⟩⟩
     ·rw [ifd_pos (by omega)]
      exact ⟨0, 0, rfl, .inl rfl⟩
  ·rw [ifd_neg (by omega)]
   dsimp only
   by_cases h4 : a ≤ m
   ·rw [ifd_neg (by omega)]
    exact ⟨a, 1, rfl, .inr ⟨by omega, by omega, h4⟩⟩
   ·rw [ifd_pos (by omega)]
    exact ⟨0, 0, rfl, .inl rfl⟩
theorem f112_vint (n m : Nat) (r : List UInt8) (hn : n ≤ m) (hm : m < 16384) : f112 (vint n ++ r) (m : Int) = some ((n : Int), ((vint n).length : Int)) := by
 unfold f112
 by_cases h : n < 128
 ·rw [vint_lt h]
  have e : (([UInt8.ofNat n] ++ r).getD 0 0).toNat = n := by simp [UInt8.toNat_ofNat']; omega
  rw [if_neg (by simp), chk_pos (by simp), e, chk_pos (by omega), jn_eq, ifd_neg (by omega)]
  dsimp only
  rw [ifd_neg (by omega)]
  rfl
 ·rw [vint_ge h, vint_lt (show n / 128 < 128 by omega)]
  generalize hy : UInt8.ofNat (n % 128 + 128) :: [UInt8.ofNat (n / 128)] ++ r = y
  have e0 : (y.getD 0 0).toNat = n % 128 + 128 := by rw [← hy]; simp [UInt8.toNat_ofNat']; omega
  have e1 : (y.getD 1 0).toNat = n / 128 := by rw [← hy]; simp [UInt8.toNat_ofNat']; omega
  have hl : 2 ≤ y.length := by rw [← hy]; simp
  have hne : y ≠ [] := fun h => by rw [h] at hl; simp at hl
  rw [if_neg (by simpa using hne), chk_pos (by omega), e0, e1, chk_pos (by omega), jn_eq, ifd_pos (by omega)]
  have e : decide ((y.length : Int) < 2) = false := by simp; omega
  rw [e, chk_pos (fun _ => by omega), chk_pos (fun _ => by omega), if_neg (by simp; omega), chk_pos (by omega), chk_pos (by omega), chk_pos (by omega), chk_pos (by omega), chk_pos (by omega)]
  have ev : ((((n % 128 + 128 : Nat) : Int) - 128) + ((128 * (n / 128) : Nat) : Int)) = (n : Int) := by omega
  rw [ev]
  dsimp only
  rw [ifd_neg (by omega)]
  rfl
theorem f81_L0_some (x : List UInt8) (hx : x.length ≤ 1000000) (r2 : Tq0) (K : Int × List (List UInt8) → Option (Bool × List (List UInt8))) (hK : ∀ i l, ∃ b, K (i, l) = some (b, l)) :
  ∀ (c k i n : Nat) (l : List (List UInt8)), i + c = x.length → c < k → n ≤ i → l.length = n → (∀ s, s ∈ l → s.length ≤ x.length) → ∃ b l', f81_L0 x r2 K k ((i : Int), n, l) = some (b, l') ∧ (∀ s, s ∈ l' → s.length ≤ x.length) ∧ l'.length ≤ x.length := by
 intro c
 induction c using Nat.strongRecOn with
 | ind c ih =>
  intro k i n l hi hk hn hl hs
  obtain ⟨k, rfl⟩ : ∃ z, k = z + 1 := ⟨k - 1, by omega⟩
  by_cases hr : (n : Int) < r2.1
  ·obtain ⟨m, j, h, hb⟩ := f112_some (x.drop i) 200 (by rw [List.length_drop]; omega)
   rw [List.length_drop] at hb
   conv => enter [1, b, 1, l', 1, 1]; unfold f81_L0
   have h' : f112 (List.drop i x) 200 = some ((m : Int), (j : Int)) := h
   rw [ifd_pos hr, Int.toNat_natCast, h', some_bind]
   dsimp only
   rw [chk_pos (by omega)]
   by_cases hj : j = 0
   ·subst hj
    rw [chk_pos (fun h => by simp at h), chk_pos (fun h => by simp at h), if_pos (by simp)]
    exact ⟨_, _, rfl, by simp, by simp⟩
   ·have hb' : 1 ≤ j ∧ j ≤ x.length - i ∧ m ≤ 200 := by omega
    rw [chk_pos (fun _ => by omega), chk_pos (fun _ => by omega)]
    by_cases hle : i + j + m ≤ x.length
    ·rw [if_neg (by simp; omega), chk_pos (by omega), chk_pos (by omega), chk_pos (by omega), chk_pos (by omega), chk_pos (by omega), chk_pos (by omega), chk_pos (by omega), chk_pos (by omega)]
     have e : (i : Int) + (j : Int) + (m : Int) = ((i + j + m : Nat) : Int) := by omega
     rw [e]
     exact ih (c - (j + m)) (by omega) k (i + j + m) (n + 1) _ (by omega) (by omega) (by omega) (by simp [hl]) (fun t ht => by
      rcases List.mem_append.1 ht with ht | ht
      ·exact hs t ht
      ·simp only [List.mem_singleton] at ht
       subst ht
       rw [List.length_drop, List.length_take]
       omega)
    ·rw [if_pos (by simp; omega)]
     exact ⟨_, _, rfl, by simp, by simp⟩
  ·obtain ⟨b, h⟩ := hK i l
   refine ⟨b, l, ?_, hs, by omega⟩
   conv => lhs; unfold f81_L0
   rw [ifd_neg hr]
   exact h
theorem f81_some (x : List UInt8) (hx : x.length ≤ 1000000) : ∃ b L, f81 x = some (b, L) ∧ (∀ s, s ∈ L → s.length ≤ x.length) ∧ L.length ≤ x.length := by
 obtain ⟨m, j, h, hb⟩ := f112_some x 25 hx
 have h' : f112 x 25 = some ((m : Int), (j : Int)) := h
 unfold f81
 rw [h', some_bind]
 by_cases hj : j = 0
 ·subst hj
  rw [if_pos (by rfl)]
  exact ⟨_, _, rfl, by simp, by simp⟩
 ·rw [if_neg (by simp; omega), jn_eq]
  exact f81_L0_some x hx _ _ (fun i l => ⟨_, rfl⟩) (x.length - j) FUEL j 0 [] (by omega) (fuel_lt (by omega)) (by omega) rfl (by simp)
theorem f81_L0_items (x : List UInt8) (hx : x.length ≤ 1000000) (r2 : Tq0) (K : Int × List (List UInt8) → Option (Bool × List (List UInt8))) (L : List (List UInt8)) (hr : r2.1 = (L.length : Int)) :
  ∀ (M : List (List UInt8)) (A : List UInt8) (D : List (List UInt8)) (k : Nat), (∀ s, s ∈ M → s.length ≤ 200) → x = A ++ items M → L = D ++ M → D.length ≤ A.length → M.length < k → f81_L0 x r2 K k ((A.length : Int), D.length, D) = K ((x.length : Int), L)
 | [], A, D, k, _, hxe, hL, _, hk => by
  obtain ⟨k, rfl⟩ : ∃ z, k = z + 1 := ⟨k - 1, by omega⟩
  have e1 : x.length = A.length := by rw [hxe]; simp [items]
  have e2 : L = D := by rw [hL]; simp
  conv => lhs; unfold f81_L0
  rw [ifd_neg (by rw [hr, e2]; omega), e1, e2]
 | s :: M, A, D, k, hM, hxe, hL, hD, hk => by
  obtain ⟨k, rfl⟩ : ∃ z, k = z + 1 := ⟨k - 1, by omega⟩
  simp only [List.length_cons] at hk
  have hl : L.length = D.length + (M.length + 1) := by rw [hL]; simp
  have e1 : x.drop A.length = vint s.length ++ (s ++ items M) := by rw [hxe, List.drop_left, items_cons, item, List.append_assoc]
  have hsl := hM s (List.mem_cons_self ..)
  have hv := vint_pos s.length
  have hil : (item s).length = (vint s.length).length + s.length := by rw [item, List.length_append]
  have hxl : x.length = A.length + ((item s).length + (items M).length) := by rw [hxe, items_cons]; simp
  have h : f112 (vint s.length ++ (s ++ items M)) 200 = some ((s.length : Int), ((vint s.length).length : Int)) := f112_vint s.length 200 _ hsl (by omega)
  have ih := f81_L0_items x hx r2 K L hr M (A ++ item s) (D ++ [s]) k (fun t ht => hM t (List.mem_cons_of_mem _ ht)) (by rw [hxe, items_cons]; simp) (by rw [hL]; simp) (by
   simp only [List.length_append, List.length_singleton]
   omega) (by omega)
  have cut : (x.take (A.length + (vint s.length).length + s.length)).drop (A.length + (vint s.length).length) = s := by
   have : x = (A ++ vint s.length) ++ (s ++ items M) := by rw [hxe, items_cons, item]; simp
   rw [this, ← List.length_append, List.drop_take, List.drop_left, Nat.add_sub_cancel_left, List.take_left]
  conv => lhs; unfold f81_L0
  rw [ifd_pos (by rw [hr]; omega), Int.toNat_natCast, e1, h, some_bind]
  dsimp only
  rw [chk_pos (by omega), chk_pos (fun _ => by omega), chk_pos (fun _ => by omega), if_neg (by simp only [Bool.or_eq_true, beq_iff_eq, decide_eq_true_eq]; omega), chk_pos (by omega), chk_pos (by omega), chk_pos (by omega), chk_pos (by omega), chk_pos (by omega), chk_pos (by omega), chk_pos (by omega), chk_pos (by omega)]
  have ea : (A.length : Int) + ((vint s.length).length : Int) = ((A.length + (vint s.length).length : Nat) : Int) := by omega
  have eb : ((A.length + (vint s.length).length : Nat) : Int) + (s.length : Int) = ((A.length + (vint s.length).length + s.length : Nat) : Int) := by omega
  rw [ea, eb, Int.toNat_natCast, Int.toNat_natCast, cut, ← ih]
  simp only [List.length_append, List.length_singleton, hil, Nat.add_assoc]
theorem f81_plist (L : List (List UInt8)) (hL : L.length ≤ 25) (hs : ∀ s, s ∈ L → s.length ≤ 200) : f81 (plist L) = some (true, L) := by
 have hx := plist_len L 200 (by omega) (by omega) hs
 have hx' : (plist L).length ≤ 1000000 := by
  have : L.length * (200 + 2) ≤ 25 * 202 := Nat.mul_le_mul hL (Nat.le_refl _)
  omega
 have hv := vint_pos L.length
 have h : f112 (plist L) 25 = some ((L.length : Int), ((vint L.length).length : Int)) := by
  rw [plist_items]
  exact f112_vint L.length 25 _ hL (by omega)
 unfold f81
 rw [h, some_bind, if_neg (by simp only [beq_iff_eq]; omega), jn_eq]
 have := f81_L0_items (plist L) hx' ((L.length : Int), ((vint L.length).length : Int)) (fun ((i7, l8) : Int × List (List UInt8)) => some ((i7 == (((plist L).length : Nat) : Int)), l8)) L rfl L (vint L.length) [] FUEL hs rfl rfl (Nat.zero_le _) (fuel_lt (by omega))
 refine this.trans ?_
 simp
theorem f82_L0_some (x : List UInt8) (hx : x.length ≤ 1000000) (K : Int → Option Int) : ∀ (d k n : Nat) (i : Int), n + d = x.length → d < k → 0 ≤ i → i < 10 ^ n → n ≤ 7 → f82_L0 x K k (i, n) = some (-1) ∨ ∃ j, 0 ≤ j ∧ j ≤ 9999999 ∧ f82_L0 x K k (i, n) = K j
 | 0, k, n, i, hn, hk, h0, h1, h7 => by
  obtain ⟨k, rfl⟩ : ∃ z, k = z + 1 := ⟨k - 1, by omega⟩
  have h10 : (10 : Int) ^ n ≤ 10 ^ 7 := by
   have : (10 : Nat) ^ n ≤ 10 ^ 7 := Nat.pow_le_pow_right (by decide) h7
   exact_mod_cast this
  refine .inr ⟨i, h0, by omega, ?_⟩
  conv => lhs; unfold f82_L0
  rw [ifd_neg (by omega)]
 | d + 1, k, n, i, hn, hk, h0, h1, h7 => by
  obtain ⟨k, rfl⟩ : ∃ z, k = z + 1 := ⟨k - 1, by omega⟩
  have h10 : (10 : Int) ^ n ≤ 10 ^ 7 := by
   have : (10 : Nat) ^ n ≤ 10 ^ 7 := Nat.pow_le_pow_right (by decide) h7
   exact_mod_cast this
  generalize hc : (x.getD n 0).toNat = c
  have e : f82_L0 x K (k + 1) (i, n) = if (((decide (((c : Nat) : Int) < (48 : Int))) || (decide (((c : Nat) : Int) > (57 : Int)))) || (decide ((n : Int) > (6 : Int)))) = true then some (-1) else
    chk (0 ≤ (((c : Nat) : Int) - (48 : Int)) ∧ (((c : Nat) : Int) - (48 : Int)) ≤ 255) (f82_L0 x K k (10 * i + (((c : Nat) : Int) - 48), n + 1)) := by
   conv => lhs; unfold f82_L0
   rw [hc, ifd_pos (by omega), chk_pos (by omega), chk_pos (fun _ => by omega)]
   by_cases hb : (((decide (((c : Nat) : Int) < (48 : Int))) || (decide (((c : Nat) : Int) > (57 : Int)))) || (decide ((n : Int) > (6 : Int)))) = true
   ·rw [if_pos hb, if_pos hb]
   ·rw [if_neg hb, if_neg hb]
    simp only [Bool.or_eq_true, decide_eq_true_eq] at hb
    rw [chk_pos (by omega), chk_pos (by omega), chk_pos (by omega), chk_pos (by omega), chk_pos (by omega), chk_pos (by omega), chk_pos (by omega)]
  rw [e]
  by_cases hb : (((decide (((c : Nat) : Int) < (48 : Int))) || (decide (((c : Nat) : Int) > (57 : Int)))) || (decide ((n : Int) > (6 : Int)))) = true
  ·rw [if_pos hb]
   exact .inl rfl
  ·rw [if_neg hb]
   simp only [Bool.or_eq_true, decide_eq_true_eq] at hb
   rw [chk_pos (by omega)]
   exact f82_L0_some x hx K d k (n + 1) _ (by omega) (by omega) (by omega) (by rw [Int.pow_succ]; omega) (by omega)
theorem f82_some (s : List UInt8) (hx : s.length ≤ 1000000) : ∃ v, f82 s = some v := by
 unfold f82
 rw [jn_eq]
 rcases f82_L0_some s hx (fun (i4 : Int) => optc ((s == []) == false) (f88 FUEL i4) fun (r5 : List UInt8) => if ((s == []) || (!(r5 == s))) then some (-1 : Int) else some i4) s.length FUEL 0 0 (by omega) (fuel_lt (by omega)) (by omega) (by simp) (by omega) with h | ⟨j, h1, h2, h⟩
 ·exact ⟨_, h⟩
 ·have hd := dig116 (n := j) h1 (by omega)
  by_cases h0 : s = []
  ·refine ⟨-1, h.trans ?_⟩
   have e : (s == []) = true := by simp [h0]
   rw [e]
   rfl
  ·have e : (s == []) = false := by simpa using h0
   by_cases h3 : Lib.itoa j = s
   ·refine ⟨j, h.trans ?_⟩
    rw [e, hd, show ((false : Bool) == false) = true from rfl, optc_t, some_bind, if_neg (by simp [h3])]
   ·refine ⟨-1, h.trans ?_⟩
    rw [e, hd, show ((false : Bool) == false) = true from rfl, optc_t, some_bind, if_pos (by simp [h3])]
theorem f82_L0_parse (x : List UInt8) (hx : x.length ≤ 7) (K : Int → Option Int) : ∀ (d k n i v : Nat), n + d = x.length → d < k → i < 10 ^ n → Lib.parseUint10 i (x.drop n) = .ok v → f82_L0 x K k ((i : Int), n) = K (v : Int)
 | 0, k, n, i, v, hn, hk, h1, hp => by
  obtain ⟨k, rfl⟩ : ∃ z, k = z + 1 := ⟨k - 1, by omega⟩
  rw [List.drop_eq_nil_of_le (by omega)] at hp
  simp only [Lib.parseUint10, Lib.NumEnd.ok.injEq] at hp
  conv => lhs; unfold f82_L0
  rw [ifd_neg (by omega), hp]
 | d + 1, k, n, i, v, hn, hk, h1, hp => by
  obtain ⟨k, rfl⟩ : ∃ z, k = z + 1 := ⟨k - 1, by omega⟩
  have h10 : (10 : Nat) ^ n ≤ 10 ^ 7 := Nat.pow_le_pow_right (by decide) (by omega)
  rw [getD_drop x n 0 (by omega)] at hp
  simp only [Lib.parseUint10] at hp
  generalize hc : (x.getD n 0).toNat = c at hp
  split at hp
  case isFalse => cases hp
  rename_i h48
  rw [if_neg (by omega), if_neg (by omega)] at hp
  have ih := f82_L0_parse x hx K d k (n + 1) (i * 10 + (c - 48)) v (by omega) (by omega) (by rw [Nat.pow_succ]; omega) hp
  conv => lhs; unfold f82_L0
  rw [hc, ifd_pos (by omega), chk_pos (by omega), chk_pos (fun _ => by omega), if_neg (by simp; omega), chk_pos (by omega), chk_pos (by omega), chk_pos (by omega), chk_pos (by omega), chk_pos (by omega), chk_pos (by omega), ← ih]
  have e : (10 : Int) * (i : Int) + (((c : Nat) : Int) - 48) = ((i * 10 + (c - 48) : Nat) : Int) := by omega
  rw [e]
theorem f82_itoa (n : Int) (h0 : 0 ≤ n) (h1 : n ≤ 9999999) : f82 (Lib.itoa n) = some n := by
 have hl := itoa_len7 n h0 h1
 obtain ⟨m, rfl⟩ : ∃ m : Nat, n = m := ⟨n.toNat, by omega⟩
 have e : Lib.itoa (m : Int) = Lib.decDigits m := by rw [Lib.itoa, if_neg (by omega), Int.toNat_natCast]
 have hp := parse_dig m (by omega)
 have hd := dig116 (n := (m : Int)) h0 (by omega)
 have hne := dig_ne m
 rw [e] at hl hd ⊢
 unfold f82
 rw [jn_eq]
 refine (f82_L0_parse (Lib.decDigits m) hl _ (Lib.decDigits m).length FUEL 0 0 m (by omega) (fuel_lt (by omega)) (by simp) (by rw [List.drop_zero]; exact hp)).trans ?_
 have e2 : (Lib.decDigits m == []) = false := by simpa using hne
 rw [e2, hd, show ((false : Bool) == false) = true from rfl, optc_t, some_bind, if_neg (by simp)]
theorem f61_L0_some (b : Bool) (L : List (List UInt8)) (hs : ∀ s, s ∈ L → s.length ≤ 1000000) (hl : L.length ≤ 1000000) (K : Nat × Int × List Ss → Option Ent) : ∀ (d k n : Nat) (a : List Ss), n + 3 * d = L.length → d < k → a.length ≤ n → ∃ l, l.length ≤ 1000000 ∧ f61_L0 (b, L) K k (n, a) = K (1, 0, l)
 | 0, k, n, a, hn, hk, ha => by
  obtain ⟨k, rfl⟩ : ∃ z, k = z + 1 := ⟨k - 1, by omega⟩
  refine ⟨a, by omega, ?_⟩
  conv => lhs; unfold f61_L0
  rw [ifd_neg (by dsimp only; omega)]
 | d + 1, k, n, a, hn, hk, ha => by
  obtain ⟨k, rfl⟩ : ∃ z, k = z + 1 := ⟨k - 1, by omega⟩
  obtain ⟨v0, h0⟩ := f82_some (L.getD n []) (hs _ (getD_mem L n [] (by omega)))
  obtain ⟨v1, h1⟩ := f82_some (L.getD (n + 1) []) (hs _ (getD_mem L (n + 1) [] (by omega)))
  obtain ⟨l, hl2, h⟩ := f61_L0_some b L hs hl K d k (n + 3) (a ++ [(v0, v1, L.getD (n + 2) [])]) (by omega) (by omega) (by simp; omega)
  refine ⟨l, hl2, ?_⟩
  conv => lhs; unfold f61_L0
  dsimp only
  rw [ifd_pos (by omega), h0, some_bind, h1, some_bind, chk_pos (by omega), chk_pos (by omega), chk_pos (by omega), chk_pos (by omega), chk_pos (by omega), chk_pos (by omega), chk_pos (by omega), chk_pos (by omega), chk_pos (by omega), chk_pos (by omega)]
  exact h
theorem f61_L0_flt (b : Bool) (K : Nat × Int × List Ss → Option Ent) (w : List UInt8) (M : List Ss) (hM : M.length ≤ 8) : ∀ (l a : List Ss) (k : Nat), M = a ++ l → l.length < k → (∀ q, q ∈ l → good q = true) → f61_L0 (b, w :: flt M) K k (1 + 3 * a.length, a) = K (1, 0, M)
 | [], a, k, hMe, hk, _ => by
  obtain ⟨k, rfl⟩ : ∃ z, k = z + 1 := ⟨k - 1, by omega⟩
  have e : M = a := by rw [hMe, List.append_nil]
  have hfl : (w :: flt M).length = 1 + 3 * M.length := by rw [List.length_cons, flt_len]; omega
  conv => lhs; unfold f61_L0
  dsimp only
  rw [ifd_neg (by rw [hfl, e]; omega), e]
 | (c, n, s) :: l, a, k, hMe, hk, hg => by
  obtain ⟨k, rfl⟩ : ∃ z, k = z + 1 := ⟨k - 1, by omega⟩
  simp only [List.length_cons] at hk
  have h := good_of (hg _ (List.mem_cons_self ..))
  simp only at h
  have hml : M.length = a.length + (l.length + 1) := by rw [hMe]; simp
  have hfl : (w :: flt M).length = 1 + 3 * M.length := by rw [List.length_cons, flt_len]; omega
  have hf : flt M = flt a ++ (Lib.itoa c :: Lib.itoa n :: s :: flt l) := by rw [hMe]; simp [flt]
  have g : ∀ i, i < 3 → (w :: flt M).getD (1 + 3 * a.length + i) [] = [Lib.itoa c, Lib.itoa n, s].getD i [] := by
   intro i hi
   rw [show 1 + 3 * a.length + i = (3 * a.length + i) + 1 by omega, List.getD_cons_succ, hf, List.getD_eq_getElem?_getD, List.getElem?_append_right (by rw [flt_len]; omega), flt_len, Nat.add_sub_cancel_left]
   match i, hi with
   | 0, _ => rfl
   | 1, _ => rfl
   | 2, _ => rfl
  have g0 : (w :: flt M).getD (1 + 3 * a.length) [] = Lib.itoa c := g 0 (by omega)
  have g1 : (w :: flt M).getD (1 + 3 * a.length + 1) [] = Lib.itoa n := g 1 (by omega)
  have g2 : (w :: flt M).getD (1 + 3 * a.length + 2) [] = s := g 2 (by omega)
  have ih := f61_L0_flt b K w M hM l (a ++ [(c, n, s)]) k (by rw [hMe]; simp) (by omega) (fun q hq => hg q (List.mem_cons_of_mem _ hq))
  conv => lhs; unfold f61_L0
  dsimp only
  rw [g0, g1, g2, ifd_pos (by omega), f82_itoa c (by omega) (by omega), some_bind, f82_itoa n (by omega) (by omega), some_bind, chk_pos (by omega), chk_pos (by omega), chk_pos (by omega), chk_pos (by omega), chk_pos (by omega), chk_pos (by omega), chk_pos (by omega), chk_pos (by omega), chk_pos (by omega), chk_pos (by omega), ← ih]
  have e : (a ++ [(c, n, s)]).length = a.length + 1 := by simp
  rw [e]
  rfl
open Go
open Classical in
theorem f61_hit {k c : Int} {l : List Ss} (h : okE k c l) : f61 (plist (strs k c l)) = some (k, c, l, 0) := by
 have hs := strs_small h
 have h81 := f81_plist (strs k c l) hs.2.1 hs.1
 have key : ∀ n : Nat, k = (n : Int) → l.length ≤ 1000000 → ((f64 (n : Int) c l).bind fun (r11 : Int) =>
   optc ((r11 != (0 : Int)) == false) (f65 (n : Int) c l) fun (r12 : List UInt8) =>
   if ((r11 != (0 : Int)) || (!(r12 == plist (strs k c l)))) then some ((0 : Int), (0 : Int), ([] : List Ss), (2 : Int)) else some ((n : Int), c, l, (0 : Int))) = some (k, c, l, 0) := by
  intro n hn hl1
  subst hn
  rw [tail2_eq _ _ _ _ hl1, if_pos ⟨h, rfl⟩]
 unfold f61
 rw [h81, some_bind]
 dsimp only
 rw [if_neg (by simp only [Bool.not_true, Bool.false_or, beq_iff_eq]; omega), jn_eq, chk_pos (by omega), chk_pos (by omega)]
 rcases h with ⟨rfl, rfl, h1, h2⟩ | ⟨rfl, h1, h2, rfl⟩ | ⟨rfl, rfl, rfl⟩
 ·have e : strs 1 0 l = cs2 :: flt l := by rw [strs, if_neg (by decide), if_neg (by decide)]
  generalize hx : plist (strs 1 0 l) = x at *
  rw [e] at *
  have hfl : (cs2 :: flt l).length = 1 + 3 * l.length := by rw [List.length_cons, flt_len]; omega
  have n1 : ((cs2 :: flt l).getD 0 [] == cs1) = false := rfl
  have n2 : ((cs2 :: flt l).getD 0 [] == ([106, 111, 105, 110] : List UInt8)) = false := rfl
  have n3 : ((cs2 :: flt l).getD 0 [] == cs2) = true := rfl
  rw [n1, n2, n3, if_neg (by decide), chk_pos (by omega), chk_pos (by omega), Bool.false_and, if_neg (by decide), chk_pos (by omega), chk_pos (by omega), chk_pos (fun _ => by omega), if_pos (by simp only [Bool.true_and, beq_iff_eq]; omega)]
  have := f61_L0_flt true (fun ((n3, i4, l5) : Nat × Int × (List Ss)) =>
   (f64 (n3 : Int) i4 l5).bind fun (r11 : Int) =>
   optc ((r11 != (0 : Int)) == false) (f65 (n3 : Int) i4 l5) fun (r12 : List UInt8) =>
   if ((r11 != (0 : Int)) || (!(r12 == x))) then some ((0 : Int), (0 : Int), ([] : List Ss), (2 : Int)) else some ((n3 : Int), i4, l5, (0 : Int))) cs2 l h1 l [] FUEL rfl (fuel_lt (by omega)) (okRs_mem h2)
  exact this.trans (key 1 rfl (by omega))
 ·have e : strs 2 c [] = [joinW, Lib.itoa c] := by rw [strs, if_pos rfl]
  generalize hx : plist (strs 2 c []) = x at *
  rw [e] at *
  have n1 : ([joinW, Lib.itoa c].getD 0 [] == cs1) = false := rfl
  have n2 : ([joinW, Lib.itoa c].getD 0 [] == ([106, 111, 105, 110] : List UInt8)) = true := rfl
  rw [n1, n2, if_neg (by decide), chk_pos (by simp), chk_pos (by simp), if_pos (by rfl)]
  simp only [List.getD_cons_succ, List.getD_cons_zero]
  rw [f82_itoa c (by omega) (by omega), some_bind, chk_pos (by simp), chk_pos (by simp)]
  exact key 2 rfl (by simp)
 ·have e : strs 3 0 [] = [cs1] := by rw [strs, if_neg (by decide), if_pos rfl]
  generalize hx : plist (strs 3 0 []) = x at *
  rw [e] at *
  rw [if_pos (by rfl)]
  exact key 3 rfl (by simp)
open Classical in
theorem f61_miss (x : List UInt8) (hx : x.length ≤ 1000000) (h : ∀ k c l, okE k c l → plist (strs k c l) ≠ x) : f61 x = some errE := by
 obtain ⟨b, L, h81, hs, hl⟩ := f81_some x hx
 have key : ∀ (n : Nat) c l, l.length ≤ 1000000 → ((f64 (n : Int) c l).bind fun (r11 : Int) =>
   optc ((r11 != (0 : Int)) == false) (f65 (n : Int) c l) fun (r12 : List UInt8) =>
   if ((r11 != (0 : Int)) || (!(r12 == x))) then some ((0 : Int), (0 : Int), ([] : List Ss), (2 : Int)) else some ((n : Int), c, l, (0 : Int))) = some errE := by
  intro n c l hl1
  rw [tail2_eq _ _ _ _ hl1, if_neg (fun hh => h _ _ _ hh.1 hh.2)]
 unfold f61
 rw [h81, some_bind]
 dsimp only
 by_cases h0 : ((!b) || (((L.length : Nat) : Int) == 0)) = true
 ·rw [if_pos h0]
  rfl
 ·have hL : 1 ≤ L.length := by
   simp only [Bool.or_eq_true, beq_iff_eq] at h0
   omega
  rw [if_neg h0, jn_eq, chk_pos (by omega), chk_pos (by omega)]
  by_cases h2 : (L.getD 0 [] == cs1) = true
  ·rw [if_pos h2]
   exact key 3 _ _ (by simp)
  ·rw [if_neg h2, chk_pos (by omega), chk_pos (by omega)]
   by_cases h1 : ((L.getD 0 [] == ([106, 111, 105, 110] : List UInt8)) && (((L.length : Nat) : Int) == 2)) = true
   ·rw [if_pos h1]
    have h1' : L.length = 2 := by
     simp only [Bool.and_eq_true, beq_iff_eq] at h1
     omega
    obtain ⟨v, hv⟩ := f82_some (L.getD 1 []) (by have := hs _ (getD_mem L 1 [] (by omega)); omega)
    rw [hv, some_bind, chk_pos (by omega), chk_pos (by omega)]
    exact key 2 _ _ (by simp)
   ·rw [if_neg h1, chk_pos (by omega), chk_pos (by omega), chk_pos (fun _ => by omega)]
    by_cases h3 : ((L.getD 0 [] == cs2) && (((L.length % 3 : Nat) : Int) == 1)) = true
    ·rw [if_pos h3]
     simp only [Bool.and_eq_true, beq_iff_eq] at h3
     obtain ⟨l, hl2, e⟩ := f61_L0_some b L (fun s hs' => by have := hs s hs'; omega) (by omega) (fun ((n3, i4, l5) : Nat × Int × (List Ss)) =>
      (f64 (n3 : Int) i4 l5).bind fun (r11 : Int) =>
      optc ((r11 != (0 : Int)) == false) (f65 (n3 : Int) i4 l5) fun (r12 : List UInt8) =>
      if ((r11 != (0 : Int)) || (!(r12 == x))) then some ((0 : Int), (0 : Int), ([] : List Ss), (2 : Int)) else some ((n3 : Int), i4, l5, (0 : Int))) (L.length / 3) FUEL 1 [] (by omega) (fuel_lt (by omega)) (by simp)
     exact e.trans (key 1 _ _ hl2)
    ·rw [if_neg h3]
     exact key 0 _ _ (by simp)
theorem dec_both (x : List UInt8) (hx : x.length ≤ 1000000) : ∃ k c l e, f68 x = some (k, c, l, e) ∧ f61 x = some (k, c, l, e) ∧ l.length ≤ 8 := by
 by_cases h : ∃ k c l, okE k c l ∧ plist (strs k c l) = x
 ·obtain ⟨k, c, l, hE, rfl⟩ := h
  refine ⟨k, c, l, 0, f68_hit hE, f61_hit hE, ?_⟩
  rcases hE with ⟨_, _, h, _⟩ | ⟨_, _, _, rfl⟩ | ⟨_, _, rfl⟩
  ·exact h
  ·simp
  ·simp
 ·have h' : ∀ k c l, okE k c l → plist (strs k c l) ≠ x := fun k c l hE e => h ⟨k, c, l, hE, e⟩
  exact ⟨_, _, _, _, f68_miss x hx h', f61_miss x hx h', by simp⟩
end Go.Abs
namespace Go.Abs
def tx (x : List Y51) (s : Int) : List (List UInt8) := (x.filter fun p => st p && decide (slot p = s)).map txtP
theorem tx_app (x y : List Y51) (s : Int) : tx (x ++ y) s = tx x s ++ tx y s := by
 unfold tx
 rw [List.filter_append, List.map_append]
theorem tx_one (p : Y51) (s : Int) : tx [p] s = if st p = true ∧ slot p = s then [txtP p] else [] := by
 unfold tx
 by_cases h : st p = true ∧ slot p = s
 ·rw [if_pos h, List.filter_cons_of_pos (by simp [h.1, h.2])]; rfl
 ·rw [if_neg h, List.filter_cons_of_neg (by simpa using h)]; rfl
theorem tx_mem {x : List Y51} {s : Int} {t : List UInt8} (h : t ∈ tx x s) : ∃ p ∈ x, txtP p = t := by
 unfold tx at h
 obtain ⟨p, h1, h2⟩ := List.mem_map.1 h
 exact ⟨p, (List.mem_filter.1 h1).1, h2⟩
structure ComI (x : List Y51) (a : MV_) (b : MX_) : Prop where
 h : ∀ s, hM a s = !(tx x s).isEmpty
 g : ∀ s, gM a [] s = (tx x s).headD []
 m : ∀ s, gM b false s = (tx x s).any fun t => !(t == (tx x s).headD [])
theorem comI : ∀ x : List Y51, ComI x (comV x).1 (comV x).2 := by
 intro x
 generalize hn : x.length = n
 induction n generalizing x with
 | zero =>
  obtain rfl := List.eq_nil_of_length_eq_zero hn
  exact ⟨fun s => rfl, fun s => rfl, fun s => rfl⟩
 | succ n ih =>
  have hne : x ≠ [] := fun e => by subst e; cases hn
  obtain ⟨y, p, rfl⟩ : ∃ y p, x = y ++ [p] := ⟨x.dropLast, x.getLast hne, (List.dropLast_concat_getLast hne).symm⟩
  have hI := ih y (by simpa using hn)
  have e : comV (y ++ [p]) = gV (comV y) p := by unfold comV; rw [List.foldl_append]; rfl
  rw [e]
  generalize (comV y) = q at hI
  obtain ⟨a, b⟩ := q
  unfold gV
  by_cases hs : st p = true
  ·rw [if_pos hs]
   dsimp only
   have ht : ∀ s, tx (y ++ [p]) s = if slot p = s then tx y s ++ [txtP p] else tx y s := fun s => by
    rw [tx_app, tx_one]
    by_cases h : slot p = s
    ·rw [if_pos ⟨hs, h⟩, if_pos h]
    ·rw [if_neg (fun q => h q.2), if_neg h, List.append_nil]
   have hh := hI.h (slot p)
   have hg := hI.g (slot p)
   have hm := hI.m (slot p)
   unfold seeV seeX
   cases hT : tx y (slot p) with
   | nil =>
    rw [hT] at hh hg hm
    simp only [List.isEmpty_nil, Bool.not_true] at hh
    rw [if_neg (by rw [hh]; simp), if_neg (by rw [hh]; simp)]
    refine ⟨fun s => ?_, fun s => ?_, fun s => ?_⟩
    ·rw [hM_upd, ht]
     by_cases h : slot p = s
     ·subst h; rw [if_pos rfl]; simp
     ·rw [if_neg h, hI.h s, decide_eq_false (fun e => h e.symm)]; simp
    ·rw [gM_upd, ht]
     by_cases h : slot p = s
     ·subst h; rw [if_pos rfl, if_pos rfl, hT]; rfl
     ·rw [if_neg h, if_neg (fun e => h e.symm), hI.g s]
    ·rw [ht]
     by_cases h : slot p = s
     ·subst h; rw [if_pos rfl, hT, hm]; simp
     ·rw [if_neg h, hI.m s]
   | cons t r =>
    rw [hT] at hh hg hm
    simp only [List.isEmpty_cons, Bool.not_false] at hh
    simp only [List.headD_cons] at hg
    rw [if_pos hh, if_pos hh, hg]
    refine ⟨fun s => ?_, fun s => ?_, fun s => ?_⟩
    ·rw [hI.h s, ht]
     by_cases h : slot p = s
     ·subst h; rw [if_pos rfl, hT]; simp
     ·rw [if_neg h]
    ·rw [hI.g s, ht]
     by_cases h : slot p = s
     ·subst h; rw [if_pos rfl, hT]; rfl
     ·rw [if_neg h]
    ·rw [ht]
     by_cases h : slot p = s
     ·subst h
      rw [if_pos rfl, hT]
      by_cases h3 : (t == txtP p) = true
      ·rw [if_pos h3, hm]
       have h4 : txtP p = t := (eq_of_beq h3).symm
       simp [h4]
      ·rw [if_neg h3, gM_upd, if_pos rfl]
       have h4 : (txtP p == t) = false := by
        cases h5 : (txtP p == t) with
        | false => rfl
        | true => exact absurd (by rw [eq_of_beq h5]; simp) h3
       simp [h4]
     ·rw [if_neg h]
      split
      ·exact hI.m s
      ·rw [gM_upd, if_neg (fun e => h e.symm), hI.m s]
  ·rw [if_neg hs]
   have ht : ∀ s, tx (y ++ [p]) s = tx y s := fun s => by rw [tx_app, tx_one, if_neg (fun q => hs q.1), List.append_nil]
   exact ⟨fun s => by rw [ht]; exact hI.h s, fun s => by rw [ht]; exact hI.g s, fun s => by rw [ht]; exact hI.m s⟩
/-! ### the reference's Common -/
def gT (q : List UInt8 × Bool × Bool) (t : List UInt8) : List UInt8 × Bool × Bool := (t, true, q.2.2 && ((!q.2.1) || (q.1 == t)))
theorem gT_tail : ∀ (r : List (List UInt8)) (t : List UInt8) (b : Bool), (r.foldl gT (t, true, b)).2.1 = true ∧ ((r.foldl gT (t, true, b)).2.2 = (b && !(r.any fun y => !(y == t)))) ∧ ((r.foldl gT (t, true, b)).2.2 = true → (r.foldl gT (t, true, b)).1 = t)
 | [], t, b => by simp
 | y :: r, t, b => by
  rw [List.foldl_cons]
  have e : gT (t, true, b) y = (y, true, b && (t == y)) := by unfold gT; simp
  rw [e]
  obtain ⟨h1, h2, h3⟩ := gT_tail r y (b && (t == y))
  by_cases hty : t = y
  ·subst hty
   refine ⟨h1, ?_, h3⟩
   rw [h2]; simp
  ·have hf : (t == y) = false := beq_false_of_ne hty
   have hf2 : (y == t) = false := beq_false_of_ne (Ne.symm hty)
   refine ⟨h1, ?_, fun h => ?_⟩
   ·rw [h2, hf]; simp [hf2]
   ·rw [h2, hf] at h; simp at h
theorem gT_all (T : List (List UInt8)) : (T.foldl gT ([], false, true)).2.1 = !T.isEmpty ∧ (T ≠ [] → (T.foldl gT ([], false, true)).2.2 = !(T.any fun y => !(y == T.headD [])) ∧ ((T.foldl gT ([], false, true)).2.2 = true → (T.foldl gT ([], false, true)).1 = T.headD [])) := by
 cases T with
 | nil => simp
 | cons t r =>
  rw [List.foldl_cons]
  have e : gT ([], false, true) t = (t, true, true) := by unfold gT; simp
  rw [e]
  obtain ⟨h1, h2, h3⟩ := gT_tail r t true
  refine ⟨by rw [h1]; rfl, fun _ => ⟨?_, h3⟩⟩
  rw [h2]; simp
theorem f52_eq {x1 x2 x3 x4 x5 x6 x7} : ∃ r, f52 x1 x2 x3 x4 x5 x6 x7 = some r ∧ (decide (r < 0) = !(pty x2 x3).2) := by
 unfold f52 pty
 by_cases h4 : x2 = 4 ∧ 0 ≤ x3 ∧ x3 < 12
 ·rw [if_pos (by simp [h4.1, h4.2.1, h4.2.2]), if_pos h4]
  exact ⟨_, rfl, by rw [decide_eq_false (by omega)]; rfl⟩
 ·rw [if_neg (by simp; omega), if_neg h4]
  by_cases h3 : x2 = 3 ∧ 0 ≤ x3 ∧ x3 < 6
  ·rw [if_pos (by simp [h3.1, h3.2.1, h3.2.2]), if_pos h3, chk_pos (by omega)]
   exact ⟨_, rfl, by rw [decide_eq_false (by omega)]; rfl⟩
  ·rw [if_neg (by simp; omega), if_neg h3]
   exact ⟨_, rfl, rfl⟩
theorem f32_L1_eq (x : List Y51) (hx : x.length ≤ 1000000) (l : List (List UInt8)) (K : List UInt8 × Bool × Bool → Option (List (List UInt8))) : ∀ (d k n : Nat) (q : List UInt8 × Bool × Bool), n + d = x.length → d < k →
  f32_L1 x l K k (q.1, q.2.1, q.2.2, n) = K ((tx (x.drop n) ((l.length : Nat) : Int)).foldl gT q)
 | 0, k, n, q, hn, hk => by
  obtain ⟨k, rfl⟩ : ∃ z, k = z + 1 := ⟨k - 1, by omega⟩
  rw [List.drop_eq_nil_of_le (by omega)]
  conv => lhs; unfold f32_L1
  rw [ifd_neg (by omega)]
  rfl
 | d + 1, k, n, q, hn, hk => by
  obtain ⟨k, rfl⟩ : ∃ z, k = z + 1 := ⟨k - 1, by omega⟩
  have hd := getD_drop x n (default : Y51) (by omega)
  have e1 : x.drop n = [x.getD n (default : Y51)] ++ x.drop (n + 1) := hd
  rw [e1, tx_app, tx_one, List.foldl_append]
  conv => lhs; unfold f32_L1
  rw [ifd_pos (by omega), jn_eq]
  obtain ⟨r, hr, hr2⟩ := f52_eq (x1 := (x.getD n (default : Y51)).1) (x2 := (x.getD n (default : Y51)).2.1) (x3 := (x.getD n (default : Y51)).2.2.1) (x4 := (x.getD n (default : Y51)).2.2.2.1) (x5 := (x.getD n (default : Y51)).2.2.2.2.1) (x6 := (x.getD n (default : Y51)).2.2.2.2.2.1) (x7 := (x.getD n (default : Y51)).2.2.2.2.2.2)
  rw [hr, some_bind, chk_pos (by omega), chk_pos (fun _ => by omega), hr2]
  have hst : (pty (x.getD n (default : Y51)).2.1 (x.getD n (default : Y51)).2.2.1).2 = st (x.getD n (default : Y51)) := rfl
  rw [hst]
  have hsl : (x.getD n (default : Y51)).2.2.2.1 = slot (x.getD n (default : Y51)) := rfl
  rw [hsl]
  generalize x.getD n (default : Y51) = p
  by_cases h : st p = true ∧ slot p = ((l.length : Nat) : Int)
  ·rw [if_neg (by rw [h.1, h.2]; simp), if_pos h, chk_pos (fun _ => by omega), chk_pos (fun h1 _ h3 => by rw [h1, h3]; rfl), chk_pos (by omega)]
   dsimp only
   rw [chk_pos (by omega)]
   exact f32_L1_eq x hx l K d k (n + 1) (gT q (txtP p)) (by omega) (by omega)
  ·rw [if_pos (by
    by_cases hs : st p = true
    ·have : slot p ≠ ((l.length : Nat) : Int) := fun e => h ⟨hs, e⟩
     rw [hs]; simpa using this
    ·rw [show st p = false by simpa using hs]; rfl), if_neg h]
   dsimp only
   rw [chk_pos (by omega)]
   exact f32_L1_eq x hx l K d k (n + 1) q (by omega) (by omega)
theorem com_both (x : List Y51) (hx : x.length ≤ 1000000) (b : Nat) (hb : ∀ p ∈ x, (txtP p).length ≤ b) : ∀ (m k k' : Nat) (l : List (List UInt8)), l.length + m = (comV x).1.length + 1 → m < k → m < k' → (∀ i, i < l.length → hM (comV x).1 ((i : Nat) : Int) = true) → (∀ t ∈ l, t.length ≤ b) →
  ∃ out, f14_L1 (comV x).1 (comV x).2 k l = some out ∧ f32_L0 x k' l = some out ∧ out.length ≤ x.length ∧ ∀ t ∈ out, t.length ≤ b := by
 have hlen : (comV x).1.length ≤ x.length := by have := comV_len x ([], []); simpa [comV] using this
 intro m
 induction m with
 | zero =>
  intro k k' l hl hk hk' h hbl
  exfalso
  have := slots_len l.length (comV x).1 fun i hi => hM_mem (h i hi)
  omega
 | succ m ih =>
  intro k k' l hl hk hk' h hbl
  obtain ⟨k, rfl⟩ : ∃ z, k = z + 1 := ⟨k - 1, by omega⟩
  obtain ⟨k', rfl⟩ : ∃ z, k' = z + 1 := ⟨k' - 1, by omega⟩
  have hlA := slots_len l.length (comV x).1 fun i hi => hM_mem (h i hi)
  have hI := comI x
  have hh := hI.h ((l.length : Nat) : Int)
  have hg := hI.g ((l.length : Nat) : Int)
  have hm := hI.m ((l.length : Nat) : Int)
  have e32 : f32_L0 x (k' + 1) l = (fun (q : List UInt8 × Bool × Bool) => if ((!q.2.1) || (!q.2.2)) then some l else chk (((l).length + 1) * 16 ≤ 140737488355328) ((f32_L0 x k') (l ++ [q.1]))) ((tx x ((l.length : Nat) : Int)).foldl gT ([], false, true)) := by
   conv => lhs; unfold f32_L0
   rw [jn_eq]
   exact f32_L1_eq x hx l _ x.length FUEL 0 ([], false, true) (by omega) (fuel_lt (by omega))
  have e14 : f14_L1 (comV x).1 (comV x).2 (k + 1) l = if (!(hM (comV x).1 (((l).length : Nat) : Int))) = true then some l else if (gM (comV x).2 false (((l).length : Nat) : Int)) then some l else chk (((l).length + 1) * 16 ≤ 140737488355328) ((f14_L1 (comV x).1 (comV x).2 k) (l ++ [(gM (comV x).1 [] (((l).length : Nat) : Int))])) := by
   conv => lhs; unfold f14_L1
  rw [e32, e14]
  obtain ⟨a1, a2⟩ := gT_all (tx x ((l.length : Nat) : Int))
  generalize hq : (tx x ((l.length : Nat) : Int)).foldl gT ([], false, true) = q at a1 a2
  dsimp only
  by_cases hT : tx x ((l.length : Nat) : Int) = []
  ·rw [hT] at hh a1
   rw [if_pos (by rw [hh]; rfl), if_pos (by rw [a1]; rfl)]
   exact ⟨l, rfl, rfl, by omega, hbl⟩
  ·obtain ⟨a3, a4⟩ := a2 hT
   have hne : (tx x ((l.length : Nat) : Int)).isEmpty = false := by
    cases hz : tx x ((l.length : Nat) : Int) with
    | nil => exact absurd hz hT
    | cons _ _ => rfl
   rw [hne] at hh a1
   rw [if_neg (by rw [hh]; simp), hm, a1, a3]
   cases hany : (tx x ((l.length : Nat) : Int)).any fun t => !(t == (tx x ((l.length : Nat) : Int)).headD []) with
   | true =>
    rw [if_pos rfl, if_pos (by simp)]
    exact ⟨l, rfl, rfl, by omega, hbl⟩
   | false =>
    rw [hany] at a3
    rw [if_neg (by simp), if_neg (by simp), chk_pos (by omega), chk_pos (by omega), hg, a4 (by rw [a3]; rfl)]
    refine ih k k' _ (by simp; omega) (by omega) (by omega) (fun i hi => ?_) (fun t ht => ?_)
    ·rw [List.length_append] at hi
     simp only [List.length_cons, List.length_nil] at hi
     rcases Nat.lt_or_ge i l.length with h3 | h3
     ·exact h i h3
     ·obtain rfl : i = l.length := by omega
      exact hh
    ·rcases List.mem_append.1 ht with h3 | h3
     ·exact hbl t h3
     ·have e : t = (tx x ((l.length : Nat) : Int)).headD [] := by simpa using h3
      have hmem : t ∈ tx x ((l.length : Nat) : Int) := by
       rw [e]
       cases hz : tx x ((l.length : Nat) : Int) with
       | nil => exact absurd hz hT
       | cons a r => exact List.mem_cons_self
      obtain ⟨p, p1, p2⟩ := tx_mem hmem
      rw [← p2]; exact hb p p1
theorem common_both (x : List Y51) (hx : x.length ≤ 1000000) (b : Nat) (hb : ∀ p ∈ x, (txtP p).length ≤ b) : ∃ out, f14 x = some out ∧ f32 x = some out ∧ out.length ≤ x.length ∧ ∀ t ∈ out, t.length ≤ b := by
 have hlen : (comV x).1.length ≤ x.length := by have := comV_len x ([], []); simpa [comV] using this
 obtain ⟨out, h1, h2, h3⟩ := com_both x hx b hb ((comV x).1.length + 1) FUEL FUEL [] (by simp) (fuel_lt (by omega)) (fuel_lt (by omega)) (by simp) (by simp)
 exact ⟨out, by rw [f14_eq x hx, h1], h2, h3⟩
end Go.Abs
namespace Go.Abs
abbrev Cfg_ := List UInt8 × Int × BitVec 16 × List (BitVec 16) × List (BitVec 16) × (List Tq1)
def hasB (m : Nat) (c : List Int) (a : Int) : Bool := (((decide (a ≥ (0 : Int))) && (decide (a < (((c).length : Nat) : Int)))) && (decide ((c.getD ((a).toNat) 0) ≥ (0 : Int)))) && (decide ((c.getD ((a).toNat) 0) < ((m : Nat) : Int)))
theorem hasB_lt {m : Nat} {c : List Int} {a : Int} (h : hasB m c a = true) : 0 ≤ a ∧ a < (c.length : Int) := by
 unfold hasB at h
 simp only [Bool.and_eq_true, decide_eq_true_eq] at h
 omega
section
variable {x1 : List (List UInt8)} {x2 : List Tq5} {x3 : BitVec 16} {x4 : List Cfg_} {x5 : List Int} {x6 : List (List UInt8 × Bool × (List Tq1))}
theorem f80_eq (a : Int) : f80 x1 x2 x3 x4 x5 x6 a = some (hasB x4.length x5 a) := by
 unfold f80
 rw [chk_pos (fun h => by simp only [beq_true, Bool.and_eq_true, decide_eq_true_eq] at h; omega), chk_pos (fun h => by simp only [beq_true, Bool.and_eq_true, decide_eq_true_eq] at h; omega)]
 rfl
theorem f74_eq' (a : Int) : f74 x1 x2 x3 x4 x5 x6 a = some (hasB x4.length x5 a) := by
 unfold f74
 rw [chk_pos (fun h => by simp only [beq_true, Bool.and_eq_true, decide_eq_true_eq] at h; omega), chk_pos (fun h => by simp only [beq_true, Bool.and_eq_true, decide_eq_true_eq] at h; omega)]
 rfl
theorem vld_f79 (hc : x5.length ≤ 1000000) (a : Int) (j : Bool) : f79 x1 x2 x3 x4 x5 x6 a j = some (hasB x4.length x5 a && ((!j) || hasB x4.length x5 (a + 1))) := by
 unfold f79
 rw [f80_eq, some_bind, f80_eq]
 cases h : hasB x4.length x5 a with
 | false => cases j <;> rfl
 | true =>
  have := hasB_lt h
  cases j with
  | false => rfl
  | true =>
   show optc true _ _ = _
   rw [optc_t, some_bind, chk_pos (fun _ => by omega)]
   rfl
theorem vld_f55 (hc : x5.length ≤ 1000000) (a : Int) (j : Bool) : f55 x1 x2 x3 x4 x5 x6 a j = some (hasB x4.length x5 a && ((!j) || hasB x4.length x5 (a + 1))) := by
 unfold f55
 rw [f74_eq', some_bind, f74_eq']
 cases h : hasB x4.length x5 a with
 | false => cases j <;> rfl
 | true =>
  have := hasB_lt h
  cases j with
  | false => rfl
  | true =>
   show optc true _ _ = _
   rw [optc_t, some_bind, chk_pos (fun _ => by omega)]
   rfl
theorem next_both (hc : x5.length ≤ 1000000) (a : Int) (j : Bool) (v : List UInt8) (hv : v.length ≤ 1000000) : ∃ r, f59 x1 x2 x3 x4 x5 x6 a j v = some r ∧ f60 x1 x2 x3 x4 x5 x6 a j v = some r := by
 obtain ⟨k, c, l, e, h1, h2, _⟩ := dec_both v hv
 unfold f59 f60
 rw [vld_f79 hc, some_bind, h2, some_bind, vld_f55 hc, some_bind]
 generalize hV : (hasB x4.length x5 a && ((!j) || hasB x4.length x5 (a + 1))) = V
 cases V with
 | false => exact ⟨_, rfl, rfl⟩
 | true =>
  have ha : hasB x4.length x5 a = true := by
   cases h : hasB x4.length x5 a with
   | true => rfl
   | false => rw [h] at hV; cases hV
  have hb := hasB_lt ha
  rw [if_neg (by simp), h1, some_bind]
  by_cases he : e = 0
  ·subst he
   have e0 : ((0 : Int) != (0 : Int)) = false := rfl
   simp only [e0, Bool.not_true, Bool.or_false, Bool.false_eq_true, if_false]
   rw [vld_f55 hc, ha]
   by_cases hA : (((k == (2 : Int)) && (!j)) && (c == (a + (1 : Int)))) = true
   ·rw [hA, show (true == true) = true from rfl, optc_t, optc_t, f80_eq, some_bind, some_bind, chk_pos (fun _ => by omega), chk_pos (fun _ => by omega), chk_pos (fun _ => by omega)]
    simp only [Bool.true_and, Bool.not_true, Bool.false_or]
    cases hn : hasB x4.length x5 (a + 1) with
    | true => exact ⟨_, rfl, rfl⟩
    | false =>
     rw [if_neg (by simp)]
     by_cases h3 : ((k == (3 : Int)) && j) = true
     ·rw [if_pos h3, chk_pos (by omega)]; exact ⟨_, rfl, rfl⟩
     ·rw [if_neg h3]; exact ⟨_, rfl, rfl⟩
   ·have hA' : (((k == (2 : Int)) && (!j)) && (c == (a + (1 : Int)))) = false := by simpa using hA
    rw [hA', show (false == true) = false from rfl, optc_f, optc_f, chk_pos (fun _ => by omega), chk_pos (fun h => absurd h (by simp)), chk_pos (fun _ => by omega)]
    simp only [Bool.false_and]
    rw [if_neg (by simp)]
    by_cases h3 : ((k == (3 : Int)) && j) = true
    ·rw [if_pos h3, chk_pos (by omega)]; exact ⟨_, rfl, rfl⟩
    ·rw [if_neg h3]; exact ⟨_, rfl, rfl⟩
  ·rw [if_pos (by simpa using he), if_pos (by simpa using he)]
   exact ⟨_, rfl, rfl⟩
theorem epo_both (hc : x5.length ≤ 1000000) (V : List (List UInt8)) (hV : V.length ≤ 1000000) (hv : ∀ v ∈ V, v.length ≤ 1000000) (K K' : List Tq3 → Option (List Tq3)) : ∀ (d k k' n : Nat) (a : Int) (j : Bool) (acc : List Tq3), n + d = V.length → d < k → d < k' → acc.length = n + 1 → acc.getD n (default : Tq3) = (a, j) →
  ∃ L, f34_L0 x1 x2 x3 x4 x5 x6 K V k (n, a, j, acc) = K L ∧ f35_L0 x1 x2 x3 x4 x5 x6 V K' k' (n, acc) = K' L ∧ L.length = V.length + 1
 | 0, k, k', n, a, j, acc, hn, hk, hk', hl, hg => by
  obtain ⟨k, rfl⟩ : ∃ z, k = z + 1 := ⟨k - 1, by omega⟩
  obtain ⟨k', rfl⟩ : ∃ z, k' = z + 1 := ⟨k' - 1, by omega⟩
  refine ⟨acc, ?_, ?_, by omega⟩
  ·rw [f34_L0.eq_2, ifd_neg (by omega)]
  ·rw [f35_L0.eq_2, ifd_neg (by omega)]
 | d + 1, k, k', n, a, j, acc, hn, hk, hk', hl, hg => by
  obtain ⟨k, rfl⟩ : ∃ z, k = z + 1 := ⟨k - 1, by omega⟩
  obtain ⟨k', rfl⟩ : ∃ z, k' = z + 1 := ⟨k' - 1, by omega⟩
  obtain ⟨r, h1, h2⟩ := next_both (x1 := x1) (x2 := x2) (x3 := x3) (x4 := x4) (x6 := x6) hc a j (V.getD n []) (hv _ (by
   rw [List.getD_eq_getElem?_getD, List.getElem?_eq_getElem (show n < V.length by omega)]
   exact List.getElem_mem _))
  obtain ⟨L, g1, g2, g3⟩ := epo_both hc V hV hv K K' d k k' (n + 1) r.1 r.2 (acc ++ [(r.1, r.2)]) (by omega) (by omega) (by omega) (by simp; omega) (by
   rw [List.getD_eq_getElem?_getD, List.getElem?_append_right (by omega)]
   simp [hl])
  refine ⟨L, ?_, ?_, g3⟩
  ·rw [f34_L0.eq_2, ifd_pos (by omega), chk_pos (by omega), chk_pos (by omega), h1, some_bind, chk_pos (by omega), chk_pos (by omega), g1]
  ·rw [f35_L0.eq_2, ifd_pos (by omega), hg]
   dsimp only
   rw [h2, some_bind, chk_pos (by omega), chk_pos (by omega), chk_pos (by omega), chk_pos (by omega), chk_pos (by omega), chk_pos (by omega), g2]
end
theorem f33_refl (l : List Tq3) (hl : l.length ≤ 1000001) : f33 l l = some true := by
 unfold f33
 rw [if_neg (by simp), jn_eq]
 have h : ∀ d k n, n + d = l.length → d < k → f33_L0 l l (fun _ => some true) k n = some true := by
  intro d
  induction d with
  | zero =>
   intro k n hn hk
   obtain ⟨k, rfl⟩ : ∃ z, k = z + 1 := ⟨k - 1, by omega⟩
   rw [f33_L0.eq_2, ifd_neg (by omega)]
  | succ d ih =>
   intro k n hn hk
   obtain ⟨k, rfl⟩ : ∃ z, k = z + 1 := ⟨k - 1, by omega⟩
   rw [f33_L0.eq_2, ifd_pos (by omega), chk_pos (by omega), chk_pos (by omega), if_neg (by simp), chk_pos (by omega)]
   exact ih k (n + 1) (by omega) (by omega)
 exact h l.length FUEL 0 (by omega) (fuel_lt (by omega))
theorem f16_few (x : List Y51) (hx : x.length ≤ 9223372036854775807) (ht : ∀ p ∈ x, (txtP p).length ≤ 140737488355328 ∧ p.2.2.2.2.2.2.length ≤ 140737488355328) : ∃ b, f16 x = some b ∧ (b = true → x.length ≤ 60 ∧ ∀ p ∈ x, (txtP p).length ≤ 20000) := by
 obtain ⟨b, h1, h2⟩ := f16_some x hx
 refine ⟨b, h1, fun hb => ?_⟩
 have h60 := h2 hb
 refine ⟨h60, ?_⟩
 subst hb
 have hw : ∀ z : Int, 0 ≤ z → z ≤ 9223372036854775807 → IntKind.wrap .i64 z = z := fun z h1 h2 => by
  unfold IntKind.wrap; simp [IntKind.bits, IntKind.signed]; omega
 have main : ∀ d k n (s : Int), n + d = x.length → d < k → 0 ≤ s → s ≤ n * 281474976710656 → f16_L0 x (fun (i4 : Int) => some ((decide ((((x).length : Nat) : Int) ≤ (60 : Int))) && (decide (i4 ≤ (20000 : Int))))) k (s, n) = some true → s ≤ 20000 ∧ ∀ p ∈ x.drop n, (txtP p).length ≤ 20000 := by
  intro d
  induction d with
  | zero =>
   intro k n s hn hk h0 hs h
   obtain ⟨k, rfl⟩ : ∃ z, k = z + 1 := ⟨k - 1, by omega⟩
   rw [f16_L0.eq_2, ifd_neg (by omega)] at h
   simp only [Option.some.injEq, Bool.and_eq_true, decide_eq_true_eq] at h
   refine ⟨h.2, fun p hp => ?_⟩
   rw [List.drop_eq_nil_of_le (by omega)] at hp; cases hp
  | succ d ih =>
   intro k n s hn hk h0 hs h
   obtain ⟨k, rfl⟩ : ∃ z, k = z + 1 := ⟨k - 1, by omega⟩
   have hp := ht _ (getD_mem x n (default : Y51) (by omega))
   have hd := getD_drop x n (default : Y51) (by omega)
   rw [f16_L0.eq_2, ifd_pos (by omega), chk_pos (by omega), chk_pos (by omega), chk_pos (by omega)] at h
   rw [hd]
   generalize x.getD n (default : Y51) = p at h hp
   have hp1 : (p.2.2.2.2.2.1).length ≤ 140737488355328 := hp.1
   rw [hw (s + ((p.2.2.2.2.2.1.length : Nat) : Int)) (by omega) (by omega), hw _ (by omega) (by omega)] at h
   obtain ⟨g1, g2⟩ := ih k (n + 1) _ (by omega) (by omega) (by omega) (by omega) h
   refine ⟨by omega, fun q hq => ?_⟩
   rcases List.mem_cons.1 hq with rfl | hq
   ·show (q.2.2.2.2.2.1).length ≤ _; omega
   ·exact g2 q hq
 unfold f16 at h1
 rw [jn_eq] at h1
 have := main x.length FUEL 0 0 (by omega) (fuel_lt (by omega)) (Int.le_refl _) (by simp) h1
 simpa using this.2
end Go.Abs
namespace Go.Abs
section
variable {R : Type} {Q : R → Prop}
theorem f200_some (x : BitVec 16) (n : Nat) : ∃ b, f200 x (n : Int) = some b := by
 unfold f200
 rw [chk_pos (fun _ => by omega)]
 exact ⟨_, rfl⟩
theorem f166_L0_some (x : BitVec 16) (K : List Int → Option (List Int)) (hK : ∀ l, l.length ≤ 16 → ∃ r, K l = some r) : ∀ d k n l, n + d = 16 → d < k → l.length ≤ n → ∃ r, f166_L0 x K k (n, l) = some r
 | 0, k, n, l, hn, hk, hl => by
  obtain ⟨k, rfl⟩ : ∃ z, k = z + 1 := ⟨k - 1, by omega⟩
  rw [f166_L0.eq_2, ifd_neg (by omega)]
  exact hK l (by omega)
 | d + 1, k, n, l, hn, hk, hl => by
  obtain ⟨k, rfl⟩ : ∃ z, k = z + 1 := ⟨k - 1, by omega⟩
  obtain ⟨b, hb⟩ := f200_some x n
  rw [f166_L0.eq_2, ifd_pos (by omega), jn_eq, hb, some_bind]
  cases b with
  | true =>
   rw [if_pos rfl, chk_pos (by omega)]
   dsimp only
   rw [chk_pos (by omega)]
   exact f166_L0_some x K hK d k (n + 1) _ (by omega) (by omega) (by simp; omega)
  | false =>
   rw [if_neg (by simp)]
   dsimp only
   rw [chk_pos (by omega)]
   exact f166_L0_some x K hK d k (n + 1) _ (by omega) (by omega) (by omega)
theorem f132_some (x : BitVec 16) : ∃ r, f132 x = some r := by
 obtain ⟨r, h⟩ := f166_L0_some x (fun l6 => some l6) (fun l _ => ⟨l, rfl⟩) 16 FUEL 0 [] rfl (fuel_lt (by omega)) (Nat.le_refl _)
 unfold f132 f166
 rw [jn_eq, h, some_bind]
 exact ⟨_, rfl⟩
theorem f131_some (x y : BitVec 16) : ∃ b, f131 x y = some b := ⟨_, rfl⟩
theorem f134_some (x y : BitVec 16) : ∃ b, f134 x y = some b := ⟨_, rfl⟩
theorem f102_L0_some (m : BitVec 16) (z : Int) (K : List (BitVec 16) → Option (List (BitVec 16))) (hK : ∀ l, l.length ≤ 65536 → ∃ r, K l = some r) : ∀ d k n l, n + d = 65536 → d < k → l.length ≤ n → ∃ r, f102_L0 m z K k (n, l) = some r
 | 0, k, n, l, hn, hk, hl => by
  obtain ⟨k, rfl⟩ : ∃ z, k = z + 1 := ⟨k - 1, by omega⟩
  rw [f102_L0_e2, ifd_neg (by omega)]
  exact hK l (by omega)
 | d + 1, k, n, l, hn, hk, hl => by
  obtain ⟨k, rfl⟩ : ∃ z, k = z + 1 := ⟨k - 1, by omega⟩
  obtain ⟨c, hc⟩ := f132_some (BitVec.ofInt 16 (n : Int))
  obtain ⟨r5, h5⟩ := f131_some (BitVec.ofInt 16 (n : Int)) m
  rw [f102_L0_e2, ifd_pos (by omega), jn_eq, h5, some_bind, hc, optc_bnd, chk_pos (fun _ => trivial)]
  generalize (if (r5 == true) = true then c else default) = r6
  split
  ·rw [chk_pos (by omega)]
   dsimp only
   rw [chk_pos (by omega)]
   exact f102_L0_some m z K hK d k (n + 1) _ (by omega) (by omega) (by simp; omega)
  ·dsimp only
   rw [chk_pos (by omega)]
   exact f102_L0_some m z K hK d k (n + 1) _ (by omega) (by omega) (by omega)
theorem f102_some (m : BitVec 16) (z : Int) : ∃ r, f102 m z = some r := by
 unfold f102
 rw [jn_eq]
 exact f102_L0_some m z (fun l8 => some l8) (fun l _ => ⟨l, rfl⟩) 65536 FUEL 0 [] rfl (fuel_lt (by omega)) (Nat.le_refl _)
theorem f201_L0_some (x : BitVec 16) : ∀ d k n m, n + d = 16 → d < k → m ≤ n * 65536 → ∃ r, f201_L0 x (fun (n4 : Nat) => some (n4 : Int)) k (m, n) = some r
 | 0, k, n, m, hn, hk, hm => by
  obtain ⟨k, rfl⟩ : ∃ z, k = z + 1 := ⟨k - 1, by omega⟩
  rw [f201_L0.eq_2, ifd_neg (by omega)]
  exact ⟨_, rfl⟩
 | d + 1, k, n, m, hn, hk, hm => by
  obtain ⟨k, rfl⟩ : ∃ z, k = z + 1 := ⟨k - 1, by omega⟩
  have hb : ((x >>> n) &&& (BitVec.ofInt 16 1)).toNat < 65536 := BitVec.isLt _
  rw [f201_L0.eq_2, ifd_pos (by omega), chk_pos (by omega), chk_pos (by omega)]
  exact f201_L0_some x d k (n + 1) _ (by omega) (by omega) (by omega)
theorem f201_some (x : BitVec 16) : ∃ r, f201 x = some r := by
 unfold f201
 rw [jn_eq]
 exact f201_L0_some x 16 FUEL 0 0 rfl (fuel_lt (by omega)) (Nat.le_refl _)
theorem f167_some (x y : BitVec 16) : ∃ r, f167 x y = some r := by
 obtain ⟨a, ha⟩ := f201_some x
 obtain ⟨b, hb⟩ := f201_some y
 unfold f167
 rw [ha, some_bind, hb, some_bind]
 split
 ·rw [some_bind, some_bind]; exact ⟨_, rfl⟩
 ·exact ⟨_, rfl⟩
theorem f169_some (x y : BitVec 16) : ∃ r, f169 x y = some r := by
 obtain ⟨a, ha⟩ := f132_some x
 obtain ⟨b, hb⟩ := f132_some y
 unfold f169
 split
 ·exact ⟨_, rfl⟩
 ·rw [ha, some_bind, hb, some_bind]
  cases decide (a < b) with
  | true =>
   rw [show (true == false) = false from rfl, optc_f, optc_f, chk_pos (fun h => absurd h (by decide)), if_pos (by simp)]
   exact ⟨_, rfl⟩
  | false =>
   rw [show (false == false) = true from rfl, optc_t, some_bind, optc_t, some_bind, chk_pos (fun _ _ h3 => by rw [h3]; rfl)]
   split <;> exact ⟨_, rfl⟩
theorem f136_some (x y z w : BitVec 16) : ∃ r, f136 x y z w = some r := by
 obtain ⟨a, ha⟩ := f169_some x z
 obtain ⟨b, hb⟩ := f169_some y w
 unfold f136
 rw [ha, some_bind]
 split
 ·exact ⟨_, rfl⟩
 ·rw [hb, some_bind]; exact ⟨_, rfl⟩
theorem f135_some (x y z w : BitVec 16) : ∃ r, f135 x y z w = some r := by
 unfold f135 f131 f168
 rw [some_bind, optc_bnd, optc_bnd, optc_bnd]
 exact ⟨_, rfl⟩
/-! ### a family's least sets -/
abbrev LW := List (BitVec 16)
theorem f133_L1_some (x : LW) (hx : x.length ≤ 1000000) (i : Nat) (hi : i < x.length) (K : Nat × LW → Option LW) (l : LW) (hl : l.length ≤ 1000000) (hK : ∀ n, n ≤ l.length → ∃ r, K (n, l) = some r ∧ r.length ≤ 1000000) : ∀ d k n, n + d = l.length → d < k → ∃ r, f133_L1 x i K k (n, l) = some r ∧ r.length ≤ 1000000
 | 0, k, n, hn, hk => by
  obtain ⟨k, rfl⟩ : ∃ z, k = z + 1 := ⟨k - 1, by omega⟩
  have e : decide ((n : Int) < ((l.length : Nat) : Int)) = false := decide_eq_false (by omega)
  rw [f133_L1.eq_2, e]
  show ∃ r, optc false _ _ = some r ∧ _
  rw [optc_f, chk_pos (fun h => absurd h (by decide)), chk_pos (fun h => absurd h (by decide)), chk_pos (fun h => absurd h (by decide)), if_neg (by simp)]
  exact hK n (by omega)
 | d + 1, k, n, hn, hk => by
  obtain ⟨k, rfl⟩ : ∃ z, k = z + 1 := ⟨k - 1, by omega⟩
  have e : decide ((n : Int) < ((l.length : Nat) : Int)) = true := decide_eq_true (by omega)
  obtain ⟨b, hb⟩ := f167_some (l.getD n 0#16) (x.getD i 0#16)
  rw [f133_L1.eq_2, e, hb, show (true == true) = true from rfl, optc_t, some_bind, chk_pos (fun _ => by omega), chk_pos (fun _ => by omega), chk_pos (fun _ => by omega)]
  split
  ·rw [chk_pos (by omega)]
   exact f133_L1_some x hx i hi K l hl hK d k (n + 1) (by omega) (by omega)
  ·exact hK n (by omega)
theorem f133_L2_some (m : Nat) (K : LW → Option LW) (L : Nat) (hL : L ≤ 1000000) (hK : ∀ l, l.length = L → ∃ r, K l = some r ∧ r.length ≤ 1000000) : ∀ d k i (l : LW), i = m + d → i < L → l.length = L → d < k → ∃ r, f133_L2 m K k ((i : Int), l) = some r ∧ r.length ≤ 1000000
 | 0, k, i, l, hi, hiL, hl, hk => by
  obtain ⟨k, rfl⟩ : ∃ z, k = z + 1 := ⟨k - 1, by omega⟩
  rw [f133_L2.eq_2, ifd_neg (by omega)]
  exact hK l hl
 | d + 1, k, i, l, hi, hiL, hl, hk => by
  obtain ⟨k, rfl⟩ : ∃ z, k = z + 1 := ⟨k - 1, by omega⟩
  rw [f133_L2.eq_2, ifd_pos (by omega), chk_pos (by omega), chk_pos (by omega), chk_pos (by omega), chk_pos (by omega), chk_pos (by omega), chk_pos (by omega), show ((i : Int) - 1) = ((i - 1 : Nat) : Int) by omega]
  exact f133_L2_some m K L hL hK d k (i - 1) _ (by omega) (by omega) (by simpa using hl) (by omega)
theorem f133_L0_some (x : LW) (hx : x.length ≤ 1000) (K : LW → Option LW) (hK : ∀ l, l.length ≤ x.length → ∃ r, K l = some r ∧ r.length ≤ 1000000) : ∀ d k n (l : LW), n + d = x.length → d < k → l.length ≤ n → ∃ r, f133_L0 x K k (n, l) = some r ∧ r.length ≤ 1000000
 | 0, k, n, l, hn, hk, hl => by
  obtain ⟨k, rfl⟩ : ∃ z, k = z + 1 := ⟨k - 1, by omega⟩
  rw [f133_L0.eq_2, ifd_neg (by omega)]
  exact hK l (by omega)
 | d + 1, k, n, l, hn, hk, hl => by
  obtain ⟨k, rfl⟩ : ∃ z, k = z + 1 := ⟨k - 1, by omega⟩
  have ih := fun (l' : LW) (h : l'.length ≤ n + 1) => f133_L0_some x hx K hK d k (n + 1) l' (by omega) (by omega) h
  rw [f133_L0.eq_2, ifd_pos (by omega), jn_eq, jn_eq]
  refine f133_L1_some x (by omega) n (by omega) _ l (by omega) (fun p hp => ?_) l.length FUEL 0 (by omega) (fuel_lt (by omega))
  dsimp only
  rw [chk_pos (fun h => ⟨by omega, by simpa using h⟩), chk_pos (fun h => by simpa using h), chk_pos (fun _ => by omega)]
  split
  ·rw [chk_pos (by omega)]
   exact ih l (by omega)
  ·rw [chk_pos (by omega), jn_eq, chk_pos (by simp; omega)]
   have e : ((((l ++ [(BitVec.ofInt 16 0)])).length : Nat) : Int) - (1 : Int) = ((l.length : Nat) : Int) := by simp
   rw [e]
   refine f133_L2_some p _ (l.length + 1) (by omega) (fun l' hl' => ?_) (l.length - p) FUEL l.length _ (by omega) (by omega) (by simp) (fuel_lt (by omega))
   rw [chk_pos (by omega), chk_pos (by omega), chk_pos (by omega), chk_pos (by omega)]
   exact ih _ (by rw [List.length_set]; omega)
theorem f133_some (x : LW) (hx : x.length ≤ 1000) : ∃ r, f133 x = some r ∧ r.length ≤ 1000000 := by
 unfold f133
 rw [jn_eq]
 exact f133_L0_some x hx (fun l => some l) (fun l h => ⟨l, rfl, by omega⟩) x.length FUEL 0 [] (by omega) (fuel_lt (by omega)) (Nat.le_refl _)
theorem f103_L1_some (r : LW) (hr : r.length ≤ 1000000) (i : Nat) (hi : i < r.length) (K : Bool → Option LW) (hK : ∀ b, ∃ q, K b = some q) : ∀ d k n b, n + d = r.length → d < k → ∃ q, f103_L1 r i K k (b, n) = some q
 | 0, k, n, b, hn, hk => by
  obtain ⟨k, rfl⟩ : ∃ z, k = z + 1 := ⟨k - 1, by omega⟩
  rw [f103_L1.eq_2, ifd_neg (by omega)]
  exact hK b
 | d + 1, k, n, b, hn, hk => by
  obtain ⟨k, rfl⟩ : ∃ z, k = z + 1 := ⟨k - 1, by omega⟩
  obtain ⟨c, hc⟩ := f134_some (r.getD i 0#16) (r.getD n 0#16)
  rw [f103_L1.eq_2, ifd_pos (by omega), jn_eq, hc, optc_bnd]
  generalize (if (((i : Int) != (n : Int)) == true) = true then c else default) = r7
  rw [chk_pos (fun _ => by omega), chk_pos (fun _ => by omega), chk_pos (fun _ => by omega), chk_pos (fun _ => by omega)]
  split
  ·dsimp only
   rw [chk_pos (by omega)]
   exact f103_L1_some r hr i hi K hK d k (n + 1) _ (by omega) (by omega)
  ·dsimp only
   rw [chk_pos (by omega)]
   exact f103_L1_some r hr i hi K hK d k (n + 1) _ (by omega) (by omega)
theorem f103_L0_some (r : LW) (hr : r.length ≤ 1000000) : ∀ d k n (l : LW), n + d = r.length → d < k → l.length ≤ n → ∃ q, f103_L0 r (fun l => some l) k (n, l) = some q
 | 0, k, n, l, hn, hk, hl => by
  obtain ⟨k, rfl⟩ : ∃ z, k = z + 1 := ⟨k - 1, by omega⟩
  rw [f103_L0.eq_2, ifd_neg (by omega)]
  exact ⟨_, rfl⟩
 | d + 1, k, n, l, hn, hk, hl => by
  obtain ⟨k, rfl⟩ : ∃ z, k = z + 1 := ⟨k - 1, by omega⟩
  have ih := fun (l' : LW) (h : l'.length ≤ n + 1) => f103_L0_some r hr d k (n + 1) l' (by omega) (by omega) h
  rw [f103_L0.eq_2, ifd_pos (by omega), jn_eq, jn_eq]
  refine f103_L1_some r hr n (by omega) _ (fun b => ?_) r.length FUEL 0 true (by omega) (fuel_lt (by omega))
  dsimp only
  cases b with
  | true =>
   rw [if_pos rfl, chk_pos (by omega), chk_pos (by omega), chk_pos (by omega), chk_pos (by omega)]
   exact ih _ (by simp; omega)
  | false =>
   rw [if_neg (by simp), chk_pos (by omega)]
   exact ih _ (by omega)
theorem f103_some (x : LW) (hx : x.length ≤ 1000) : ∃ q, f103 x = some q := by
 obtain ⟨r, h1, h2⟩ := f133_some x hx
 unfold f103
 rw [h1, some_bind, jn_eq]
 exact f103_L0_some r h2 r.length FUEL 0 [] (by omega) (fuel_lt (by omega)) (Nat.le_refl _)
theorem f72_L0_some (x : LW) (m : Int) (K : LW → Option LW) (hK : ∀ l, l.length ≤ 6 → ∃ q, K l = some q) : ∀ d k n (l : LW), n + d = 6 → d < k → l.length ≤ n → ∃ q, f72_L0 x m K k (n, l) = some q
 | 0, k, n, l, hn, hk, hl => by
  obtain ⟨k, rfl⟩ : ∃ z, k = z + 1 := ⟨k - 1, by omega⟩
  rw [f72_L0.eq_2, if_neg (by simp; omega)]
  exact hK l (by omega)
 | d + 1, k, n, l, hn, hk, hl => by
  obtain ⟨k, rfl⟩ : ∃ z, k = z + 1 := ⟨k - 1, by omega⟩
  rw [f72_L0.eq_2]
  by_cases h : (n : Int) < ((x.length : Nat) : Int)
  ·rw [if_pos (by simp; omega), jn_eq, chk_pos (by omega)]
   split
   ·rw [chk_pos (by omega)]
    dsimp only
    rw [chk_pos (by omega)]
    exact f72_L0_some x m K hK d k (n + 1) _ (by omega) (by omega) (by simp; omega)
   ·dsimp only
    rw [chk_pos (by omega)]
    exact f72_L0_some x m K hK d k (n + 1) _ (by omega) (by omega) (by omega)
  ·rw [if_neg (by simp; omega)]
   exact hK l (by omega)
theorem f72_some (x1 x2 x3 : Int) (x4 x5 : LW) (x6 : List Tq1) (x7 : LW) (m : Int) (h3 : 0 ≤ x3) (hm : 1 ≤ m) (hm5 : m ≤ 5) : ∃ q, f72 x1 x2 x3 x4 x5 x6 x7 m = some q := by
 unfold f72
 rw [chk_pos (by omega), chk_pos (by omega)]
 split
 ·rw [jn_eq]
  have hz : ∀ z, ∃ q, (f102 (((BitVec.ofInt 16 1) <<< ((m).toNat)) - (BitVec.ofInt 16 1)) z).bind (fun (r10 : LW) => some r10) = some q := fun z => by
   obtain ⟨q, hq⟩ := f102_some (((BitVec.ofInt 16 1) <<< ((m).toNat)) - (BitVec.ofInt 16 1)) z
   rw [hq]; exact ⟨_, rfl⟩
  have hb := BitVec.isLt (x7.getD 0 0#16)
  have e0 := Int.emod_nonneg (((x7.getD 0 0#16).toNat : Nat) : Int) (show m ≠ 0 by omega)
  have e1 := Int.emod_lt_of_pos (((x7.getD 0 0#16).toNat : Nat) : Int) (show 0 < m by omega)
  by_cases h : (((x7).length : Nat) : Int) > (0 : Int)
  ·rw [ifd_pos h, chk_pos (by omega), chk_pos (by omega), chk_pos (by omega), chk_pos (by omega)]
   exact hz _
  ·rw [ifd_neg h]
   exact hz _
 ·rw [jn_eq]
  refine f72_L0_some x7 m _ (fun l hl => ?_) 6 FUEL 0 [] rfl (fuel_lt (by omega)) (Nat.le_refl _)
  rw [jn_eq]
  have hz : ∀ z : LW, z.length ≤ 7 → ∃ q, (f103 z).bind (fun (r16 : LW) => some r16) = some q := fun z h => by
   obtain ⟨q, hq⟩ := f103_some z (by omega)
   rw [hq]; exact ⟨_, rfl⟩
  split
  ·rw [chk_pos (by omega)]
   exact hz _ (by simp; omega)
  ·exact hz _ (by omega)
/-! ### a model -/
abbrev LP := List Tq1
theorem f104_L1_some (x : LP) (hx : x.length ≤ 1000) (i : Nat) (hi : i < x.length) (K : Bool → Option LP) (hK : ∀ b, ∃ q, K b = some q) : ∀ d k n b, n + d = x.length → d < k → ∃ q, f104_L1 x i K k (b, n) = some q
 | 0, k, n, b, hn, hk => by
  obtain ⟨k, rfl⟩ : ∃ z, k = z + 1 := ⟨k - 1, by omega⟩
  rw [f104_L1.eq_2, ifd_neg (by omega)]
  exact hK b
 | d + 1, k, n, b, hn, hk => by
  obtain ⟨k, rfl⟩ : ∃ z, k = z + 1 := ⟨k - 1, by omega⟩
  obtain ⟨r, hr⟩ := f135_some ((x.getD n (default : Tq1)).1) ((x.getD n (default : Tq1)).2) ((x.getD i (default : Tq1)).1) ((x.getD i (default : Tq1)).2)
  rw [f104_L1.eq_2, ifd_pos (by omega), jn_eq, hr, some_bind, chk_pos (by omega), chk_pos (by omega), chk_pos (fun _ => by omega), chk_pos (fun _ => by omega), chk_pos (fun h1 _ h3 => by rw [h1, h3]; rfl)]
  split
  ·dsimp only
   rw [chk_pos (by omega)]
   exact f104_L1_some x hx i hi K hK d k (n + 1) _ (by omega) (by omega)
  ·dsimp only
   rw [chk_pos (by omega)]
   exact f104_L1_some x hx i hi K hK d k (n + 1) _ (by omega) (by omega)
theorem f104_L2_some (x : LP) (hx : x.length ≤ 1000) (i : Nat) (hi : i < x.length) (K : Nat × LP → Option LP) (l : LP) (hl : l.length ≤ 1000) (hK : ∀ n, n ≤ l.length → ∃ q, K (n, l) = some q) : ∀ d k n, n + d = l.length → d < k → ∃ q, f104_L2 x i K k (n, l) = some q
 | 0, k, n, hn, hk => by
  obtain ⟨k, rfl⟩ : ∃ z, k = z + 1 := ⟨k - 1, by omega⟩
  have e : decide ((n : Int) < ((l.length : Nat) : Int)) = false := decide_eq_false (by omega)
  rw [f104_L2.eq_2, e]
  show ∃ r, optc false _ _ = some r
  rw [optc_f, chk_pos (fun h => absurd h (by decide)), chk_pos (fun h => absurd h (by decide)), chk_pos (fun h => absurd h (by decide)), if_neg (by simp)]
  exact hK n (by omega)
 | d + 1, k, n, hn, hk => by
  obtain ⟨k, rfl⟩ : ∃ z, k = z + 1 := ⟨k - 1, by omega⟩
  have e : decide ((n : Int) < ((l.length : Nat) : Int)) = true := decide_eq_true (by omega)
  obtain ⟨b, hb⟩ := f136_some ((l.getD n (default : Tq1)).1) ((l.getD n (default : Tq1)).2) ((x.getD i (default : Tq1)).1) ((x.getD i (default : Tq1)).2)
  rw [f104_L2.eq_2, e, hb, show (true == true) = true from rfl, optc_t, some_bind, chk_pos (fun _ => by omega), chk_pos (fun _ => by omega), chk_pos (fun _ => by omega)]
  split
  ·rw [chk_pos (by omega)]
   exact f104_L2_some x hx i hi K l hl hK d k (n + 1) (by omega) (by omega)
  ·exact hK n (by omega)
theorem f104_L0_some (x : LP) (hx : x.length ≤ 1000) : ∀ d k n (l : LP), n + d = x.length → d < k → l.length ≤ n → ∃ q, f104_L0 x (fun l => some l) k (n, l) = some q
 | 0, k, n, l, hn, hk, hl => by
  obtain ⟨k, rfl⟩ : ∃ z, k = z + 1 := ⟨k - 1, by omega⟩
  rw [f104_L0.eq_2, ifd_neg (by omega)]
  exact ⟨_, rfl⟩
 | d + 1, k, n, l, hn, hk, hl => by
  obtain ⟨k, rfl⟩ : ∃ z, k = z + 1 := ⟨k - 1, by omega⟩
  have ih := fun (l' : LP) (h : l'.length ≤ n + 1) => f104_L0_some x hx d k (n + 1) l' (by omega) (by omega) h
  rw [f104_L0.eq_2, ifd_pos (by omega), jn_eq, jn_eq]
  refine f104_L1_some x hx n (by omega) _ (fun b => ?_) x.length FUEL 0 true (by omega) (fuel_lt (by omega))
  dsimp only
  cases b with
  | false =>
   rw [if_pos (by rfl), chk_pos (by omega)]
   exact ih _ (by omega)
  | true =>
   rw [if_neg (by simp), jn_eq]
   refine f104_L2_some x hx n (by omega) _ l (by omega) (fun p hp => ?_) l.length FUEL 0 (by omega) (fuel_lt (by omega))
   dsimp only
   have e1 : (l.take p).length = p := by simp; omega
   rw [chk_pos (by omega), chk_pos (by omega), chk_pos (by omega), chk_pos (by omega), chk_pos (by omega), chk_pos (by rw [List.length_append, e1]; simp; omega), chk_pos (by omega)]
   exact ih _ (by rw [List.length_append, List.length_append, e1, List.length_drop]; simp; omega)
theorem f104_some (x : LP) (hx : x.length ≤ 1000) : ∃ q, f104 x = some q := by
 unfold f104
 rw [jn_eq]
 exact f104_L0_some x hx x.length FUEL 0 [] (by omega) (fuel_lt (by omega)) (Nat.le_refl _)
theorem f73_L0_some (m : Int) (x : LP) (K : LP → Option LP) (hK : ∀ l, l.length ≤ 7 → ∃ q, K l = some q) : ∀ d k n (l : LP), n + d = 6 → d < k → l.length ≤ n + 1 → ∃ q, f73_L0 m x K k (n, l) = some q
 | 0, k, n, l, hn, hk, hl => by
  obtain ⟨k, rfl⟩ : ∃ z, k = z + 1 := ⟨k - 1, by omega⟩
  rw [f73_L0.eq_2, if_neg (by simp; omega)]
  exact hK l (by omega)
 | d + 1, k, n, l, hn, hk, hl => by
  obtain ⟨k, rfl⟩ : ∃ z, k = z + 1 := ⟨k - 1, by omega⟩
  rw [f73_L0.eq_2]
  by_cases h : (n : Int) < ((x.length : Nat) : Int)
  ·rw [if_pos (by simp; omega), chk_pos (by omega), chk_pos (by omega), chk_pos (by omega), chk_pos (by omega), chk_pos (by omega)]
   exact f73_L0_some m x K hK d k (n + 1) _ (by omega) (by omega) (by simp; omega)
  ·rw [if_neg (by simp; omega)]
   exact hK l (by omega)
theorem f73_some (m : Int) (x : LP) (hm : 0 ≤ m) : ∃ q, f73 m x = some q := by
 unfold f73
 rw [chk_pos hm, jn_eq]
 refine f73_L0_some m x _ (fun l hl => ?_) 6 FUEL 0 _ rfl (fuel_lt (by omega)) (by simp)
 obtain ⟨q, hq⟩ := f104_some l (by omega)
 rw [hq]; exact ⟨_, rfl⟩
theorem f54_some (x1 x2 x3 : Int) (x4 x5 : LW) (x6 : LP) (x7 : List UInt8) (h1 : 0 ≤ x1 ∧ x1 ≤ 255) (h2 : 0 ≤ x2 ∧ x2 ≤ 255) (h3 : 0 ≤ x3) : ∃ q, f54 x1 x2 x3 x4 x5 x6 x7 = some q := by
 obtain ⟨a, ha⟩ := f72_some x1 x2 x3 x4 x5 x6 x4 ((1 : Int) + (x2 % (5 : Int))) h3 (by omega) (by omega)
 obtain ⟨b, hb⟩ := f72_some x1 x2 x3 x4 x5 x6 x5 ((1 : Int) + (x2 % (5 : Int))) h3 (by omega) (by omega)
 obtain ⟨c, hc⟩ := f73_some ((1 : Int) + (x2 % (5 : Int))) x6 (by omega)
 unfold f54
 rw [chk_pos (by omega), chk_pos (by omega), chk_pos (by omega), ha, some_bind, hb, some_bind, chk_pos (by omega), chk_pos (by omega), chk_pos (by omega), chk_pos (by omega), hc, some_bind]
 exact ⟨_, rfl⟩
end
abbrev Dr27 := Int × Int × Int × List (BitVec 16) × List (BitVec 16) × (List Tq1)
def okDr (d : Dr27) : Prop := (0 ≤ d.1 ∧ d.1 ≤ 255) ∧ (0 ≤ d.2.1 ∧ d.2.1 ≤ 255) ∧ (0 ≤ d.2.2.1 ∧ d.2.2.1 ≤ 255)
abbrev Dep := List (List UInt8) × BitVec 16 × (List Tq5) × (List Cfg_) × List Int × (List (List UInt8 × Bool × (List Tq1)))
theorem f28_L0_some (x1 : Int) (h1 : 0 ≤ x1 ∧ x1 ≤ 255) (x4 : List Dr27) (h4 : ∀ d ∈ x4, okDr d) (K : List Cfg_ × List Int → Option Dep) (hK : ∀ l l', l'.length ≤ 2 → ∃ q, K (l, l') = some q ∧ q.2.2.2.2.1.length ≤ 2) : ∀ d k n (l : List Cfg_) (l' : List Int), n + d = 2 → d < k → l.length = n → l'.length = n → ∃ q, f28_L0 x1 x4 K k (n, l, l') = some q ∧ q.2.2.2.2.1.length ≤ 2
 | 0, k, n, l, l', hn, hk, hl, hl' => by
  obtain ⟨k, rfl⟩ : ∃ z, k = z + 1 := ⟨k - 1, by omega⟩
  rw [f28_L0.eq_2, if_neg (by simp; omega)]
  exact hK l l' (by omega)
 | d + 1, k, n, l, l', hn, hk, hl, hl' => by
  obtain ⟨k, rfl⟩ : ∃ z, k = z + 1 := ⟨k - 1, by omega⟩
  rw [f28_L0.eq_2]
  by_cases hc : (((decide ((n : Int) < (((x4).length : Nat) : Int))) && (decide ((n : Int) < (2 : Int)))) || ((n : Int) == (0 : Int))) = true
  ·rw [if_pos hc, chk_pos (by omega), chk_pos (by omega), jn_eq]
   have go : ∀ (i9 i10 i11 : Int) (a b : LW) (c : LP), 0 ≤ i9 ∧ i9 ≤ 255 → 0 ≤ i11 → ∃ q, (fun ((i9, i10, i11, l12, l13, l14) : Int × Int × Int × List (BitVec 16) × List (BitVec 16) × (List Tq1)) =>
  chk (-9223372036854775808 ≤ (((3 : Int) + (x1 % (3 : Int))) - (1 : Int)) ∧ (((3 : Int) + (x1 % (3 : Int))) - (1 : Int)) ≤ 9223372036854775807) <|
  chk (0 ≤ (((3 : Int) + (x1 % (3 : Int))) - (1 : Int)) ∧ (((3 : Int) + (x1 % (3 : Int))) - (1 : Int)) ≤ 255) <|
  (f54 i9 (((3 : Int) + (x1 % (3 : Int))) - (1 : Int)) i11 l12 l13 l14 (([([99, 48] : List UInt8), ([99, 49] : List UInt8)] : List (List UInt8)).getD n [])).bind fun (r15 : List UInt8 × Int × BitVec 16 × List (BitVec 16) × List (BitVec 16) × (List Tq1)) =>
  chk ((n : Int) < (2 : Int)) <|
  chk (n < 2) <|
  chk (((l).length + 1) * 104 ≤ 140737488355328) <|
  chk (((l').length + 1) * 8 ≤ 140737488355328) <|
  chk (((n : Int) + (1 : Int)) ≤ 9223372036854775807) <|
  (f28_L0 x1 x4 K k) ((n + 1), (l ++ [(r15.1, r15.2.1, r15.2.2.1, r15.2.2.2.1, r15.2.2.2.2.1, r15.2.2.2.2.2)]), (l' ++ [(n : Int)]))) (i9, i10, i11, a, b, c) = some q ∧ q.2.2.2.2.1.length ≤ 2 := by
    intro i9 i10 i11 a b c g1 g3
    dsimp only
    obtain ⟨q, hq⟩ := f54_some i9 (((3 : Int) + (x1 % (3 : Int))) - (1 : Int)) i11 a b c (([([99, 48] : List UInt8), ([99, 49] : List UInt8)] : List (List UInt8)).getD n []) g1 (by omega) g3
    rw [chk_pos (by omega), chk_pos (by omega), hq, some_bind, chk_pos (by omega), chk_pos (by omega), chk_pos (by omega), chk_pos (by omega), chk_pos (by omega)]
    exact f28_L0_some x1 h1 x4 h4 K hK d k (n + 1) _ _ (by omega) (by omega) (by simp [hl]) (by simp [hl'])
   by_cases h : (n : Int) < (((x4).length : Nat) : Int)
   ·rw [ifd_pos h, chk_pos h]
    have ho := h4 _ (getD_mem x4 n (default : Dr27) (by omega))
    exact go (x4.getD n (default : Dr27)).1 (x4.getD n (default : Dr27)).2.1 (x4.getD n (default : Dr27)).2.2.1 (x4.getD n (default : Dr27)).2.2.2.1 (x4.getD n (default : Dr27)).2.2.2.2.1 (x4.getD n (default : Dr27)).2.2.2.2.2 ho.1 ho.2.2.1
   ·rw [ifd_neg h]
    exact go 0 0 1 [(BitVec.ofInt 16 (((3 : Int) + (x1 % (3 : Int))) / (2 : Int)))] [(BitVec.ofInt 16 (((3 : Int) + (x1 % (3 : Int))) / (2 : Int)))] [] (by omega) (by omega)
  ·rw [if_neg hc]
   exact hK l l' (by omega)
theorem f28_L1_some (x3 : Int) (h3 : 0 ≤ x3 ∧ x3 ≤ 255) (K : List (List UInt8 × Bool × LP) → Option Dep) (hK : ∀ l, ∃ q, K l = some q ∧ q.2.2.2.2.1.length ≤ 2) : ∀ d k n l, n + d = 2 → d < k → l.length ≤ n → ∃ q, f28_L1 x3 K k (n, l) = some q ∧ q.2.2.2.2.1.length ≤ 2
 | 0, k, n, l, hn, hk, hl => by
  obtain ⟨k, rfl⟩ : ∃ z, k = z + 1 := ⟨k - 1, by omega⟩
  rw [f28_L1.eq_2, chk_pos (by omega), chk_pos (by omega), ifd_neg (by omega)]
  exact hK l
 | d + 1, k, n, l, hn, hk, hl => by
  obtain ⟨k, rfl⟩ : ∃ z, k = z + 1 := ⟨k - 1, by omega⟩
  rw [f28_L1.eq_2, chk_pos (by omega), chk_pos (by omega)]
  by_cases h : (n : Int) < (x3 % (3 : Int))
  ·rw [ifd_pos h, chk_pos (by omega), chk_pos (by omega), chk_pos (by omega), chk_pos (by omega)]
   exact f28_L1_some x3 h3 K hK d k (n + 1) _ (by omega) (by omega) (by simp; omega)
  ·rw [ifd_neg h]
   exact hK l
theorem f28_some (x1 x2 x3 : Int) (x4 : List Dr27) (h1 : 0 ≤ x1 ∧ x1 ≤ 255) (h2 : 0 ≤ x2 ∧ x2 ≤ 255) (h3 : 0 ≤ x3 ∧ x3 ≤ 255) (h4 : ∀ d ∈ x4, okDr d) : ∃ q, f28 x1 x2 x3 x4 = some q ∧ q.2.2.2.2.1.length ≤ 2 := by
 unfold f28
 rw [chk_pos (by omega), chk_pos (by omega), chk_pos (by omega), chk_pos (by simp; omega), chk_pos (by omega), jn_eq, chk_pos (by omega)]
 have go : ∀ w5 : BitVec 16, ∃ q, (fun (w5 : BitVec 16) =>
 jn (fun ((l16, l17) : (List Cfg_) × List Int) =>
 jn (fun (l20 : List (List UInt8 × Bool × (List Tq1))) =>
 some ((([([115, 48] : List UInt8), ([115, 49] : List UInt8), ([115, 50] : List UInt8), ([115, 51] : List UInt8), ([115, 52] : List UInt8)]).take ((((3 : Int) + (x1 % (3 : Int)))).toNat)), w5, [(([104, 111, 109, 101] : List UInt8), (((BitVec.ofInt 16 1) <<< ((((3 : Int) + (x1 % (3 : Int)))).toNat)) - (BitVec.ofInt 16 1)))], l16, l17, l20)
 ) fun (K4 : (List (List UInt8 × Bool × (List Tq1))) → Option Dep) =>
 f28_L1 x3 K4 FUEL (0, [])
 ) fun (K2 : ((List Cfg_) × List Int) → Option Dep) =>
 f28_L0 x1 x4 K2 FUEL (0, [], [])) w5 = some q ∧ q.2.2.2.2.1.length ≤ 2 := by
  intro w5
  dsimp only
  rw [jn_eq]
  refine f28_L0_some x1 h1 x4 h4 _ (fun l l' hl' => ?_) 2 FUEL 0 [] [] rfl (fuel_lt (by omega)) rfl rfl
  dsimp only
  rw [jn_eq]
  refine f28_L1_some x3 h3 _ (fun l20 => ⟨_, rfl, hl'⟩) 2 FUEL 0 [] rfl (fuel_lt (by omega)) (Nat.le_refl _)
 by_cases h : x2 < ((3 : Int) + (x1 % (3 : Int)))
 ·rw [ifd_pos h, chk_pos (by omega)]
  exact go _
 ·rw [ifd_neg h]
  exact go _
end Go.Abs
namespace Go.Abs
theorem f11_true : f11 = some true := by kernel_rfl
end Go.Abs
