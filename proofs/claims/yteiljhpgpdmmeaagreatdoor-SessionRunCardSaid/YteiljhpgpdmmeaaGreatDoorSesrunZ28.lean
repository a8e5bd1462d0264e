/- Part 28 of the proof: Num, Dec49a, Dec49b, Dec49c, Dec49d, Dec49e, Dec49f, F49zLaw8. -/
import Derived.Test.YteiljhpgpdmmeaaGreatDoorSesrunZ27
import Derived.Lib.AtoiAllCases
import Derived.Lib.ItoaLen
namespace Go.Abs
open Go Go.Lib
theorem parse_app : ∀ (a b : List UInt8) (acc : Nat) (v : Nat), parseUint10 acc a = .ok v → parseUint10 acc (a ++ b) = parseUint10 v b
 | [], b, acc, v, h => by
  simp only [parseUint10, NumEnd.ok.injEq] at h
  subst h; rfl
 | c :: a, b, acc, v, h => by
  simp only [parseUint10, List.cons_append] at h ⊢
  split at h
  ·split at h
   ·cases h
   ·split at h
    ·cases h
    ·rename_i h1 h2 h3
     rw [if_pos h1, if_neg h2, if_neg h3]
     exact parse_app a b _ v h
  ·cases h
theorem dig_nat (d : Nat) (h : d < 10) : (UInt8.ofNat (48 + d)).toNat = 48 + d := by
 simp [UInt8.toNat_ofNat']
 omega
theorem parse_dig (n : Nat) (hn : n ≤ 9223372036854775807) : parseUint10 0 (decDigits n) = .ok n := by
 induction n using Nat.strongRecOn with
 | ind n ih =>
  by_cases h : n < 10
  ·rw [decDigits, dif_pos h]
   simp only [parseUint10, dig_nat n h]
   rw [if_pos (by omega), if_neg (by omega), if_neg (by omega)]
   congr 1
   omega
  ·rw [decDigits, dif_neg h]
   have := ih (n / 10) (by omega) (by omega)
   rw [parse_app _ _ _ _ this]
   simp only [parseUint10, dig_nat (n % 10) (by omega)]
   rw [if_pos (by omega), if_neg (by omega), if_neg (by omega)]
   congr 1
   omega
theorem dig_ne (n : Nat) : decDigits n ≠ [] := by
 rw [decDigits]
 split <;> simp
theorem dig_head (n : Nat) : ∃ c r, decDigits n = c :: r ∧ 48 ≤ c.toNat ∧ c.toNat ≤ 57 := by
 induction n using Nat.strongRecOn with
 | ind n ih =>
  by_cases h : n < 10
  ·rw [decDigits, dif_pos h]
   exact ⟨_, _, rfl, by rw [dig_nat n h]; omega, by rw [dig_nat n h]; omega⟩
  ·obtain ⟨c, r, e, h1, h2⟩ := ih (n / 10) (by omega)
   rw [decDigits, dif_neg h, e]
   exact ⟨c, _, rfl, h1, h2⟩
theorem atoi_itoa (n : Int) (h0 : 0 ≤ n) (h1 : n ≤ 9223372036854775807) : Lib.atoiAll (Lib.itoa n) = .ok n := by
 rw [Lib.itoa, if_neg (by omega)]
 obtain ⟨m, rfl⟩ : ∃ m : Nat, n = m := ⟨n.toNat, by omega⟩
 rw [Int.toNat_natCast]
 obtain ⟨c, r, e, h2, h3⟩ := dig_head m
 have hp := parse_dig m (by omega)
 rw [e] at hp ⊢
 rw [atoiAll_plain c r (by omega) (by omega)]
 unfold parseMag
 rw [if_neg (by simp), hp]
 unfold signless
 simp only
 rw [if_neg (by omega)]
theorem itoa_len7 (n : Int) (h0 : 0 ≤ n) (h1 : n ≤ 9999999) : (Lib.itoa n).length ≤ 7 := by
 rw [Lib.itoa, if_neg (by omega)]
 obtain ⟨m, rfl⟩ : ∃ m : Nat, n = m := ⟨n.toNat, by omega⟩
 rw [Int.toNat_natCast]
 have : ∀ (k m : Nat), m < 10 ^ (k + 1) → (decDigits m).length ≤ k + 1 := by
  intro k
  induction k with
  | zero => intro m h; rw [decDigits, dif_pos (by omega)]; simp
  | succ k ih =>
   intro m h
   by_cases h' : m < 10
   ·rw [decDigits, dif_pos h']; simp
   ·rw [decDigits, dif_neg h', List.length_append]
    have := ih (m / 10) (by rw [Nat.pow_succ] at h; omega)
    simp only [List.length_cons, List.length_nil]
    omega
 exact this 6 m (by omega)
theorem atoiO_itoa (n : Int) (h0 : 0 ≤ n) (h1 : n ≤ 9223372036854775807) : atoiO (Lib.itoa n) = some (n, false) := by
 unfold atoiO
 have := Lib.itoa_length_le n (by omega) h1
 rw [if_pos (by omega), atoi_itoa n h0 h1]
theorem atoiO_some (s : List UInt8) (h : s.length ≤ 281474976710656) : ∃ v b, atoiO s = some (v, b) ∧ -9223372036854775808 ≤ v ∧ v ≤ 9223372036854775807 := by
 unfold atoiO
 rw [if_pos h]
 cases e : Lib.atoiAll s with
 | ok v => exact ⟨v, false, rfl, atoiAll_bounds e⟩
 | range => exact ⟨_, true, rfl, atoiSat_bounds s⟩
 | _ => exact ⟨0, true, rfl, by omega, by omega⟩
end Go.Abs
namespace Go.Abs
open Go
theorem bits_u8 (x y : Int) : 0 ≤ bitsI .and .u8 x y ∧ bitsI .and .u8 x y ≤ 255 := by
 unfold bitsI
 generalize ((BitVec.ofInt IntKind.u8.bits x &&& BitVec.ofInt IntKind.u8.bits y).toNat : Int) = n
 unfold IntKind.wrap
 simp [IntKind.bits, IntKind.signed]
 omega
theorem bits_u64 (x y : Int) : 0 ≤ bitsI .or .u64 x y ∧ bitsI .or .u64 x y ≤ 18446744073709551615 := by
 unfold bitsI
 generalize ((BitVec.ofInt IntKind.u64.bits x ||| BitVec.ofInt IntKind.u64.bits y).toNat : Int) = n
 unfold IntKind.wrap
 simp [IntKind.bits, IntKind.signed]
 omega
theorem or64 (a b : Nat) (ha : a < 2 ^ 64) (hb : b < 2 ^ 64) : bitsI .or .u64 (a : Int) (b : Int) = ((a ||| b : Nat) : Int) := by
 have h : (BitVec.ofInt IntKind.u64.bits (a : Int) ||| BitVec.ofInt IntKind.u64.bits (b : Int)).toNat = a ||| b := by
  have e : IntKind.u64.bits = 64 := rfl
  rw [e, BitVec.toNat_or, BitVec.ofInt_natCast, BitVec.ofInt_natCast, BitVec.toNat_ofNat, BitVec.toNat_ofNat, Nat.mod_eq_of_lt ha, Nat.mod_eq_of_lt hb]
 unfold bitsI
 simp only [h]
 have := Nat.or_lt_two_pow ha hb
 exact wrap_in (k := .u64) (show 0 ≤ ((a ||| b : Nat) : Int) ∧ ((a ||| b : Nat) : Int) ≤ 18446744073709551615 by omega)
theorem and127 : ∀ m : Fin 256, bitsI .and .u8 ((m.val : Nat) : Int) 127 = ((m.val % 128 : Nat) : Int) := by decide +kernel
def chk8 (c : Nat) : Option Int → Bool
 | some r => decide (c < 2 ^ r.toNat) && decide (0 ≤ r) && decide (r ≤ 8)
 | none => false
theorem len8 : ∀ c : Fin 128, chk8 c.val (f167 ((c.val : Nat) : Int)) = true := by decide +kernel
theorem len8' (c : Nat) (h : c < 128) : ∃ t : Nat, f167 (c : Int) = some (t : Int) ∧ c < 2 ^ t ∧ t ≤ 8 := by
 have h1 := len8 ⟨c, h⟩
 simp only at h1
 generalize f167 ((c : Nat) : Int) = q at h1
 cases q with
 | none => cases h1
 | some r =>
  simp only [chk8, Bool.and_eq_true, decide_eq_true_eq] at h1
  obtain ⟨⟨h3, h4⟩, h5⟩ := h1
  exact ⟨r.toNat, by rw [Int.toNat_of_nonneg h4], h3, by omega⟩
theorem shl_ok (c t n : Nat) (hc : c < 2 ^ t) (h : t + 7 * n ≤ 64) : c * 2 ^ (7 * n) < 18446744073709551616 := by
 have h1 : c * 2 ^ (7 * n) < 2 ^ t * 2 ^ (7 * n) := Nat.mul_lt_mul_of_pos_right hc (Nat.pow_pos (by decide))
 rw [← Nat.pow_add] at h1
 have h2 : 2 ^ (t + 7 * n) ≤ 2 ^ 64 := Nat.pow_le_pow_right (by decide) h
 omega
theorem get_last (x : List UInt8) (K : Unit → Option (Int × Int × Int)) (i : Int) (n k c : Nat) (hn : n < min x.length 10) (hx : x.length ≤ 1000000) (hc : (x.getD n 0).toNat = c) (h8 : c < 128) :
  ∃ t : Nat, f167 (c : Int) = some (t : Int) ∧ f146_L0 x K (k + 1) (i, n) = if 64 < t + 7 * n then some (0, 0, 7) else if c = 0 ∧ 0 < n then some (0, 0, 2) else some (bitsI .or .u64 i (((c * 2 ^ (7 * n) : Nat) : Int)), ((n + 1 : Nat) : Int), 0) := by
 obtain ⟨t, ht, h1, h2⟩ := len8' c h8
 refine ⟨t, ht, ?_⟩
 conv => lhs; unfold f146_L0
 rw [hc, ifd_pos (by omega), chk_pos (by omega), ifd_neg (by omega), ht, some_bind, chk_pos (by omega), chk_pos (by omega)]
 by_cases h64 : 64 < t + 7 * n
 ·rw [ifd_pos (by omega), if_pos h64]
 ·rw [ifd_neg (by omega), if_neg h64]
  by_cases hz : c = 0 ∧ 0 < n
  ·rw [if_pos (by simp; omega), if_pos hz]
  ·rw [if_neg (by simp; omega), if_neg hz, chk_pos (by omega), chk_pos (by omega)]
   have hs := shl_ok c t n h1 (by omega)
   have hb : IntKind.bits .u64 = 64 := rfl
   have e : ((c : Int) * 2 ^ (7 * n)) = ((c * 2 ^ (7 * n) : Nat) : Int) := by
    rw [Int.natCast_mul, Int.natCast_pow]; rfl
   rw [e, chk_pos ⟨by omega, by omega, by omega⟩, chk_pos (by omega)]
theorem get_more (x : List UInt8) (K : Unit → Option (Int × Int × Int)) (i : Int) (n k c : Nat) (hn : n < min x.length 10) (hx : x.length ≤ 1000000) (hc : (x.getD n 0).toNat = c) (h8 : 128 ≤ c) :
  f146_L0 x K (k + 1) (i, n) = f146_L0 x K k (bitsI .or .u64 i (IntKind.wrap .u64 (bitsI .and .u8 (c : Int) 127 * 2 ^ min (7 * n) (IntKind.bits .u64))), n + 1) := by
 have hb := bits_u8 (c : Int) 127
 conv => lhs; unfold f146_L0
 rw [hc, ifd_pos (by omega), chk_pos (by omega), ifd_pos (by omega), chk_pos (by omega), chk_pos (by omega), chk_pos (by omega)]
theorem get_end (x : List UInt8) (K : Unit → Option (Int × Int × Int)) (i : Int) (n k : Nat) (hn : ¬ n < min x.length 10) : f146_L0 x K (k + 1) (i, n) = K () := by
 conv => lhs; unfold f146_L0
 rw [ifd_neg (by omega)]
theorem f146_L0_some (x : List UInt8) (hx : x.length ≤ 1000000) (K : Unit → Option (Int × Int × Int)) (hK : ∃ e, K () = some (0, 0, e) ∧ e ≠ 0) : ∀ (c k n : Nat) (i : Int), n + c = min x.length 10 → c < k →
  ∃ v j e, f146_L0 x K k (i, n) = some (v, j, e) ∧ (e = 0 → 0 ≤ v ∧ v ≤ 18446744073709551615 ∧ 1 ≤ j ∧ j ≤ (x.length : Int))
 | 0, k, n, i, hn, hk => by
  obtain ⟨k, rfl⟩ : ∃ z, k = z + 1 := ⟨k - 1, by omega⟩
  obtain ⟨e, he, h0⟩ := hK
  rw [get_end x K i n k (by omega), he]
  exact ⟨0, 0, e, rfl, fun h => absurd h h0⟩
 | c + 1, k, n, i, hn, hk => by
  obtain ⟨k, rfl⟩ : ∃ z, k = z + 1 := ⟨k - 1, by omega⟩
  by_cases h8 : (x.getD n 0).toNat < 128
  ·obtain ⟨t, _, h⟩ := get_last x K i n k _ (by omega) hx rfl h8
   rw [h]
   split
   ·exact ⟨_, _, _, rfl, fun h => by cases h⟩
   ·split
    ·exact ⟨_, _, _, rfl, fun h => by cases h⟩
    ·have := bits_u64 i (((x.getD n 0).toNat * 2 ^ (7 * n) : Nat) : Int)
     exact ⟨_, _, _, rfl, fun _ => ⟨this.1, this.2, by omega, by omega⟩⟩
  ·rw [get_more x K i n k _ (by omega) hx rfl (by omega)]
   exact f146_L0_some x hx K hK c k (n + 1) _ (by omega) (by omega)
theorem f146_some (x : List UInt8) (hx : x.length ≤ 1000000) : ∃ v j e, f146 x = some (v, j, e) ∧ (e = 0 → 0 ≤ v ∧ v ≤ 18446744073709551615 ∧ 1 ≤ j ∧ j ≤ (x.length : Int)) := by
 unfold f146
 rw [jn_eq]
 refine f146_L0_some x hx _ ?_ (min x.length 10) FUEL 0 0 (by omega) (fuel_lt (by omega))
 by_cases h : x.length < 10
 ·exact ⟨9, by rw [ifd_pos (by omega)], by decide⟩
 ·exact ⟨7, by rw [ifd_neg (by omega)], by decide⟩
theorem f146_vint (n : Nat) (r : List UInt8) (hn : n < 16384) (hx : (vint n ++ r).length ≤ 1000000) : f146 (vint n ++ r) = some ((n : Int), ((vint n).length : Int), 0) := by
 obtain ⟨k, hk⟩ : ∃ k, FUEL = k + 2 := ⟨FUEL - 2, by unfold FUEL; omega⟩
 unfold f146
 rw [jn_eq, hk]
 by_cases h : n < 128
 ·rw [vint_lt h] at hx ⊢
  have e : ([UInt8.ofNat n] ++ r).getD 0 0 = UInt8.ofNat n := rfl
  have e2 : (([UInt8.ofNat n] ++ r).getD 0 0).toNat = n := by rw [e]; simp [UInt8.toNat_ofNat']; omega
  obtain ⟨t, ht, h1⟩ := get_last ([UInt8.ofNat n] ++ r) (fun (_ : Unit) => if (decide (((([UInt8.ofNat n] ++ r).length : Nat) : Int) < (10 : Int))) then some ((0 : Int), (0 : Int), (9 : Int)) else some ((0 : Int), (0 : Int), (7 : Int))) 0 0 (k + 1) n (by simp; omega) hx e2 h
  obtain ⟨t', ht', _, h8⟩ := len8' n h
  rw [ht] at ht'
  cases ht'
  rw [h1, if_neg (by omega), if_neg (by omega)]
  have := or64 0 n (by omega) (by omega)
  rw [Nat.zero_or] at this
  simpa using this
 ·rw [vint_ge h, vint_lt (show n / 128 < 128 by omega)] at hx ⊢
  generalize hy : UInt8.ofNat (n % 128 + 128) :: [UInt8.ofNat (n / 128)] ++ r = y at hx ⊢
  have e0 : (y.getD 0 0).toNat = n % 128 + 128 := by rw [← hy]; simp [UInt8.toNat_ofNat']; omega
  have e1 : (y.getD 1 0).toNat = n / 128 := by rw [← hy]; simp [UInt8.toNat_ofNat']; omega
  have hl : 2 ≤ y.length := by rw [← hy]; simp
  rw [get_more y _ 0 0 (k + 1) _ (by omega) hx e0 (by omega)]
  have ea := and127 ⟨n % 128 + 128, by omega⟩
  simp only at ea
  rw [ea]
  have em : (n % 128 + 128) % 128 = n % 128 := by omega
  have ew : IntKind.wrap .u64 (((n % 128 + 128) % 128 : Nat) * 2 ^ min (7 * 0) (IntKind.bits .u64)) = ((n % 128 : Nat) : Int) := by
   rw [em]
   have : ((2 : Int) ^ min (7 * 0) (IntKind.bits .u64)) = 1 := rfl
   rw [this, Int.mul_one]
   exact wrap_in (k := .u64) (show 0 ≤ ((n % 128 : Nat) : Int) ∧ ((n % 128 : Nat) : Int) ≤ 18446744073709551615 by omega)
  rw [ew]
  have eo := or64 0 (n % 128) (by omega) (by omega)
  rw [Nat.zero_or] at eo
  have eo' : bitsI .or .u64 0 ((n % 128 : Nat) : Int) = ((n % 128 : Nat) : Int) := eo
  rw [eo']
  obtain ⟨t', ht', _, h8⟩ := len8' (n / 128) (by omega)
  obtain ⟨t, ht, h1⟩ := get_last y (fun (_ : Unit) => if (decide (((y.length : Nat) : Int) < (10 : Int))) then some ((0 : Int), (0 : Int), (9 : Int)) else some ((0 : Int), (0 : Int), (7 : Int))) ((n % 128 : Nat) : Int) 1 k (n / 128) (by omega) hx e1 (by omega)
  rw [ht] at ht'
  cases ht'
  rw [h1, if_neg (by omega), if_neg (by omega)]
  have e3 := or64 (n % 128) (n / 128 * 2 ^ (7 * 1)) (by omega) (by omega)
  have e4 : (n % 128 ||| n / 128 * 2 ^ (7 * 1)) = n := by
   have := Nat.two_pow_add_eq_or_of_lt (i := 7) (b := n % 128) (by omega) (n / 128)
   rw [Nat.or_comm, show n / 128 * 2 ^ (7 * 1) = 2 ^ 7 * (n / 128) by omega, ← this]
   omega
  rw [e3, e4]
  rfl
theorem f120_some (x : List UInt8) (hx : x.length ≤ 1000000) : ∃ s j e, f120 x = some (s, j, e) ∧ (e = 0 → 1 ≤ j ∧ j ≤ (x.length : Int) ∧ s.length ≤ x.length) := by
 obtain ⟨v, j, e, h, hb⟩ := f146_some x hx
 unfold f120
 rw [h, some_bind]
 by_cases he : e = 0
 ·subst he
  obtain ⟨h1, h2, h3, h4⟩ := hb rfl
  rw [if_neg (by simp)]
  dsimp only
  rw [chk_pos (by omega), chk_pos (by omega)]
  by_cases hv : v > (x.length : Int) - j
  ·rw [ifd_pos hv]
   exact ⟨_, _, _, rfl, fun h => by cases h⟩
  ·rw [ifd_neg hv, chk_pos (by omega), chk_pos (by omega), chk_pos (by omega)]
   refine ⟨_, _, _, rfl, fun _ => ⟨by omega, by omega, ?_⟩⟩
   simp only [List.length_drop, List.length_take]
   omega
 ·rw [if_pos (by simpa using he)]
  exact ⟨_, _, _, rfl, fun h => absurd h he⟩
def item (s : List UInt8) : List UInt8 := vint s.length ++ s
theorem f120_item (s r : List UInt8) (hs : s.length < 16384) (hx : (item s ++ r).length ≤ 1000000) : f120 (item s ++ r) = some (s, ((item s).length : Int), 0) := by
 unfold item at hx ⊢
 rw [List.append_assoc] at hx ⊢
 unfold f120
 rw [f146_vint s.length (s ++ r) hs hx, some_bind]
 have hl : (vint s.length ++ (s ++ r)).length = (vint s.length).length + (s.length + r.length) := by simp
 have hl2 : (vint s.length ++ s).length = (vint s.length).length + s.length := by simp
 rw [if_neg (by simp)]
 dsimp only
 rw [chk_pos (by omega), chk_pos (by omega), ifd_neg (by omega), chk_pos (by omega), chk_pos (by omega), chk_pos (by omega)]
 have e : ((vint s.length).length : Int) + (s.length : Int) = (((vint s.length).length + s.length : Nat) : Int) := by omega
 rw [e, Int.toNat_natCast, Int.toNat_natCast, ← List.append_assoc, ← hl2, List.take_left, List.drop_left]
def items (L : List (List UInt8)) : List UInt8 := (L.map item).flatten
theorem plist_items (L : List (List UInt8)) : plist L = vint L.length ++ items L := rfl
theorem items_cons (s : List UInt8) (L : List (List UInt8)) : items (s :: L) = item s ++ items L := rfl
theorem f119_L0_some (x : List UInt8) (hx : x.length ≤ 1000000) (r2 : Int × Int × Int) (K : Int × List (List UInt8) → Option (Int × Int × List (List UInt8))) (hK : ∀ i l, ∃ j e l', K (i, l) = some (j, e, l') ∧ l' = l) :
  ∀ (c k i n : Nat) (l : List (List UInt8)), i + c = x.length → c < k → n ≤ i → l.length = n → (∀ s, s ∈ l → s.length ≤ x.length) → ∃ j e l', f119_L0 x r2 K k ((i : Int), n, l) = some (j, e, l') ∧ (∀ s, s ∈ l' → s.length ≤ x.length) ∧ l'.length ≤ x.length := by
 intro c
 induction c using Nat.strongRecOn with
 | ind c ih =>
  intro k i n l hi hk hn hl hs
  obtain ⟨k, rfl⟩ : ∃ z, k = z + 1 := ⟨k - 1, by omega⟩
  by_cases hr : (n : Int) < r2.1
  ·obtain ⟨s, j, e, h, hb⟩ := f120_some (x.drop i) (by rw [List.length_drop]; omega)
   rw [List.length_drop] at hb
   have hu : f119_L0 x r2 K (k + 1) ((i : Int), n, l) = if (e != 0) = true then some (0, e, []) else chk ((l.length + 1) * 16 ≤ 140737488355328) (chk (-9223372036854775808 ≤ (i : Int) + j ∧ (i : Int) + j ≤ 9223372036854775807) (chk ((n : Int) + 1 ≤ 18446744073709551615) (f119_L0 x r2 K k ((i : Int) + j, n + 1, l ++ [s])))) := by
    conv => lhs; unfold f119_L0
    rw [ifd_pos hr, Int.toNat_natCast, h, some_bind, chk_pos (by omega)]
   rw [hu]
   by_cases he : e = 0
   ·subst he
    obtain ⟨h1, h2, h3⟩ := hb rfl
    rw [if_neg (by simp), chk_pos (by omega), chk_pos (by omega), chk_pos (by omega)]
    obtain ⟨m, rfl⟩ : ∃ m : Nat, j = m := ⟨j.toNat, by omega⟩
    have := ih (c - m) (by omega) k (i + m) (n + 1) (l ++ [s]) (by omega) (by omega) (by omega) (by simp [hl]) (fun t ht => by
     rcases List.mem_append.1 ht with ht | ht
     ·exact hs t ht
     ·simp only [List.mem_singleton] at ht
      subst ht; omega)
    simpa using this
   ·rw [if_pos (by simpa using he)]
    exact ⟨_, _, _, rfl, by simp, by simp⟩
  ·obtain ⟨j, e, l', h, rfl⟩ := hK i l
   refine ⟨j, e, l', ?_, hs, by omega⟩
   conv => lhs; unfold f119_L0
   rw [ifd_neg hr]
   exact h
theorem f84_some (x : List UInt8) (hx : x.length ≤ 1000000) : ∃ j e l, f84 x = some (j, e, l) ∧ (∀ s, s ∈ l → s.length ≤ x.length) ∧ l.length ≤ x.length := by
 obtain ⟨v, j, e, h, hb⟩ := f146_some x hx
 have h119 : ∃ j e l, f119 x = some (j, e, l) ∧ (∀ s, s ∈ l → s.length ≤ x.length) ∧ l.length ≤ x.length := by
  unfold f119
  rw [h, some_bind]
  by_cases he : e = 0
  ·subst he
   obtain ⟨h1, h2, h3, h4⟩ := hb rfl
   rw [if_neg (by simp), jn_eq]
   obtain ⟨m, rfl⟩ : ∃ m : Nat, j = m := ⟨j.toNat, by omega⟩
   exact f119_L0_some x hx _ _ (fun i l => ⟨i, 0, l, rfl, rfl⟩) (x.length - m) FUEL m 0 [] (by omega) (fuel_lt (by omega)) (by omega) rfl (by simp)
  ·rw [if_pos (by simpa using he)]
   exact ⟨_, _, _, rfl, by simp, by simp⟩
 obtain ⟨j, e, l, h, hs⟩ := h119
 unfold f84
 rw [h]
 exact ⟨j, e, l, rfl, hs⟩
theorem vint_pos (n : Nat) : 1 ≤ (vint n).length := by
 rw [vint]
 split <;> simp
theorem item_pos (s : List UInt8) : 1 ≤ (item s).length := by
 unfold item
 have := vint_pos s.length
 rw [List.length_append]
 omega
theorem f119_L0_items (x : List UInt8) (hx : x.length ≤ 1000000) (r2 : Int × Int × Int) (K : Int × List (List UInt8) → Option (Int × Int × List (List UInt8))) (L : List (List UInt8)) (hr : r2.1 = (L.length : Int)) :
  ∀ (M : List (List UInt8)) (A : List UInt8) (D : List (List UInt8)) (k : Nat), (∀ s, s ∈ M → s.length < 16384) → x = A ++ items M → L = D ++ M → D.length ≤ A.length → M.length < k → f119_L0 x r2 K k ((A.length : Int), D.length, D) = K ((x.length : Int), L)
 | [], A, D, k, _, hxe, hL, _, hk => by
  obtain ⟨k, rfl⟩ : ∃ z, k = z + 1 := ⟨k - 1, by omega⟩
  have e1 : x.length = A.length := by rw [hxe]; simp [items]
  have e2 : L = D := by rw [hL]; simp
  conv => lhs; unfold f119_L0
  rw [ifd_neg (by rw [hr, e2]; omega), e1, e2]
 | s :: M, A, D, k, hM, hxe, hL, hD, hk => by
  obtain ⟨k, rfl⟩ : ∃ z, k = z + 1 := ⟨k - 1, by omega⟩
  simp only [List.length_cons] at hk
  have hl : L.length = D.length + (M.length + 1) := by rw [hL]; simp
  have e1 : x.drop A.length = item s ++ items M := by rw [hxe, List.drop_left, items_cons]
  have hxl : x.length = A.length + ((item s).length + (items M).length) := by rw [hxe, items_cons]; simp
  have h := f120_item s (items M) (hM s (List.mem_cons_self ..)) (by rw [← e1, List.length_drop]; omega)
  have hp := item_pos s
  have ih := f119_L0_items x hx r2 K L hr M (A ++ item s) (D ++ [s]) k (fun t ht => hM t (List.mem_cons_of_mem _ ht)) (by rw [hxe, items_cons]; simp) (by rw [hL]; simp) (by
   simp only [List.length_append, List.length_singleton]
   omega) (by omega)
  conv => lhs; unfold f119_L0
  rw [ifd_pos (by rw [hr]; omega), Int.toNat_natCast, e1, h, some_bind, chk_pos (by omega), if_neg (by simp)]
  dsimp only
  rw [chk_pos (by omega), chk_pos (by omega), chk_pos (by omega), ← ih]
  simp
theorem f84_plist (L : List (List UInt8)) (hL : L.length < 16384) (hs : ∀ s, s ∈ L → s.length < 16384) (hx : (plist L).length ≤ 1000000) : f84 (plist L) = some (((plist L).length : Int), 0, L) := by
 have h119 : f119 (plist L) = some (((plist L).length : Int), 0, L) := by
  unfold f119
  rw [plist_items] at hx ⊢
  rw [f146_vint L.length (items L) hL hx, some_bind, if_neg (by simp), jn_eq]
  exact f119_L0_items (vint L.length ++ items L) hx ((L.length : Int), ((vint L.length).length : Int), 0) _ L rfl L (vint L.length) [] FUEL hs rfl rfl (Nat.zero_le _) (fuel_lt (by omega))
 unfold f84
 rw [h119]
 rfl
end Go.Abs
namespace Go.Abs
open Go
abbrev Ent := Int × Int × List Ss × Int
def errE : Ent := ((0 : Int), (0 : Int), [], (2 : Int))
def joinW : List UInt8 := [106, 111, 105, 110]
def flt (l : List Ss) : List (List UInt8) := l.flatMap fun q => [Lib.itoa q.1, Lib.itoa q.2.1, q.2.2]
def strs (k c : Int) (l : List Ss) : List (List UInt8) := if k = 2 then [joinW, Lib.itoa c] else if k = 3 then [cs11] else cs12 :: flt l
def okAt (l : List Ss) (i : Nat) : Bool := good (l.getD i default) && !((l.take i).any fun p => p.1 == (l.getD i default).1 && p.2.1 == (l.getD i default).2.1)
def okRs (l : List Ss) : Prop := ∀ i, i < l.length → okAt l i = true
def okE (k c : Int) (l : List Ss) : Prop := (k = 1 ∧ c = 0 ∧ l.length ≤ 8 ∧ okRs l) ∨ (k = 2 ∧ 0 ≤ c ∧ c < 6 ∧ l = []) ∨ (k = 3 ∧ c = 0 ∧ l = [])
theorem good_iff (c n : Int) (op : List UInt8) : good (c, n, op) = true ↔ (0 ≤ c ∧ c < 6 ∧ 1 ≤ n ∧ n ≤ 1000000 ∧ op ≠ [] ∧ op.length ≤ 200) := by
 unfold good
 simp only [Bool.and_eq_true, decide_eq_true_eq, Bool.not_eq_true', beq_eq_false_iff_ne]
 constructor
 ·rintro ⟨⟨⟨⟨⟨h1, h2⟩, h3⟩, h4⟩, h5⟩, h6⟩
  exact ⟨h1, h2, h3, h4, h5, by omega⟩
 ·rintro ⟨h1, h2, h3, h4, h5, h6⟩
  exact ⟨⟨⟨⟨⟨h1, h2⟩, h3⟩, h4⟩, h5⟩, by omega⟩
theorem okRs_mem {l : List Ss} (h : okRs l) : ∀ q, q ∈ l → good q = true := by
 intro q hq
 obtain ⟨i, hi, rfl⟩ := List.mem_iff_getElem.1 hq
 have := h i hi
 unfold okAt at this
 simp only [Bool.and_eq_true] at this
 have e : l.getD i default = l[i] := by simp [List.getD_eq_getElem?_getD, hi]
 rw [e] at this
 exact this.1
theorem flt_len (l : List Ss) : (flt l).length = 3 * l.length := by
 unfold flt
 induction l with
 | nil => rfl
 | cons a l ih => simp [ih]; omega
theorem flt_cons (q : Ss) (l : List Ss) : flt (q :: l) = Lib.itoa q.1 :: Lib.itoa q.2.1 :: q.2.2 :: flt l := rfl
theorem itoa1 (n : Int) (h0 : 0 ≤ n) (h1 : n < 10) : (Lib.itoa n).length = 1 := by
 rw [Lib.itoa, if_neg (by omega), Lib.decDigits, dif_pos (by omega)]
 rfl
theorem flt_small {l : List Ss} (h : ∀ q, q ∈ l → good q = true) : ∀ s, s ∈ flt l → s.length ≤ 200 := by
 intro s hs
 unfold flt at hs
 obtain ⟨q, hq, hs⟩ := List.mem_flatMap.1 hs
 have hg := good_of (h q hq)
 simp only [List.mem_cons, List.not_mem_nil, or_false] at hs
 rcases hs with rfl | rfl | rfl
 ·have := itoa1 q.1 (by omega) (by omega); omega
 ·have := itoa_len7 q.2.1 (by omega) (by omega); omega
 ·omega
theorem strs_small {k c : Int} {l : List Ss} (h : okE k c l) : (∀ s, s ∈ strs k c l → s.length ≤ 200) ∧ (strs k c l).length ≤ 25 ∧ 0 < (strs k c l).length := by
 rcases h with ⟨rfl, rfl, h1, h2⟩ | ⟨rfl, h1, h2, rfl⟩ | ⟨rfl, rfl, rfl⟩
 ·rw [strs, if_neg (by decide), if_neg (by decide)]
  refine ⟨fun s hs => ?_, by rw [List.length_cons, flt_len]; omega, by simp⟩
  rcases List.mem_cons.1 hs with rfl | hs
  ·decide
  ·exact flt_small (okRs_mem h2) s hs
 ·rw [strs, if_pos rfl]
  refine ⟨fun s hs => ?_, by simp, by simp⟩
  simp only [List.mem_cons, List.not_mem_nil, or_false] at hs
  rcases hs with rfl | rfl
  ·decide
  ·have := itoa1 c (by omega) (by omega); omega
 ·rw [strs, if_neg (by decide), if_pos rfl]
  exact ⟨fun s hs => by simp only [List.mem_singleton] at hs; subst hs; decide, by simp, by simp⟩
theorem items_len (L : List (List UInt8)) (b : Nat) (hb : b < 16384) (h : ∀ s, s ∈ L → s.length ≤ b) : (items L).length ≤ L.length * (b + 2) := by
 induction L with
 | nil => simp [items]
 | cons s L ih =>
  have h1 := ih fun t ht => h t (List.mem_cons_of_mem _ ht)
  have h2 := h s (List.mem_cons_self ..)
  have h3 := vint_len 1 s.length (by omega)
  rw [items_cons, List.length_append, item, List.length_append, List.length_cons, Nat.add_mul]
  omega
theorem plist_len (L : List (List UInt8)) (b : Nat) (hb : b < 16384) (hl : L.length < 16384) (h : ∀ s, s ∈ L → s.length ≤ b) : (plist L).length ≤ 2 + L.length * (b + 2) := by
 have h1 := items_len L b hb h
 have h2 := vint_len 1 L.length (by omega)
 rw [plist_items, List.length_append]
 omega
theorem flt_items {l : List Ss} (h : ∀ q, q ∈ l → good q = true) : (items (flt l)).length ≤ l.length * 212 := by
 induction l with
 | nil => simp [items, flt]
 | cons q l ih =>
  have h1 := ih fun t ht => h t (List.mem_cons_of_mem _ ht)
  have hg := good_of (h q (List.mem_cons_self ..))
  have a1 := itoa1 q.1 (by omega) (by omega)
  have a2 := itoa_len7 q.2.1 (by omega) (by omega)
  have v1 := vint_len 0 (Lib.itoa q.1).length (by omega)
  have v2 := vint_len 0 (Lib.itoa q.2.1).length (by omega)
  have v3 := vint_len 1 q.2.2.length (by omega)
  rw [flt_cons, items_cons, items_cons, items_cons]
  simp only [List.length_append, item, List.length_cons]
  omega
theorem val_len {k c : Int} {l : List Ss} (h : okE k c l) : (plist (strs k c l)).length ≤ 2000 := by
 rcases h with ⟨rfl, rfl, h1, h2⟩ | ⟨rfl, h1, h2, rfl⟩ | ⟨rfl, rfl, rfl⟩
 ·rw [strs, if_neg (by decide), if_neg (by decide), plist_items, items_cons]
  have := flt_items (okRs_mem h2)
  have hl : (cs12 :: flt l).length = 1 + 3 * l.length := by rw [List.length_cons, flt_len]; omega
  have v := vint_len 0 (cs12 :: flt l).length (by omega)
  have e : (item cs12).length = 6 := by
   have : cs12.length = 5 := rfl
   rw [item, List.length_append, this, vint_lt (by decide)]
   rfl
  simp only [List.length_append]
  omega
 ·rw [strs, if_pos rfl]
  have := plist_len [joinW, Lib.itoa c] 200 (by omega) (by simp) (fun s hs => by
   simp only [List.mem_cons, List.not_mem_nil, or_false] at hs
   rcases hs with rfl | rfl
   ·decide
   ·have := itoa1 c (by omega) (by omega); omega)
  simp only [List.length_cons, List.length_nil] at this
  omega
 ·rw [strs, if_neg (by decide), if_pos rfl]
  have := plist_len [cs11] 200 (by omega) (by simp) (fun s hs => by simp only [List.mem_singleton] at hs; subst hs; decide)
  simp only [List.length_cons, List.length_nil] at this
  omega
theorem f191_L0_eq (x : List Ss) (hl : x.length ≤ 1000000) (c m : Int) (s : List UInt8) (K : Int × Int × List UInt8 → Option (Int × Int × Int × List UInt8)) : ∀ (d k n : Nat), n + d = x.length → d < k →
  ((x.drop n).any (fun p => p.1 == c && p.2.1 == m) = true → ∃ i : Nat, f191_L0 x K k (n, c, m, s) = some ((i : Int), c, m, s)) ∧ ((x.drop n).any (fun p => p.1 == c && p.2.1 == m) = false → f191_L0 x K k (n, c, m, s) = K (c, m, s))
 | 0, k, n, hn, hk => by
  obtain ⟨k, rfl⟩ : ∃ z, k = z + 1 := ⟨k - 1, by omega⟩
  rw [List.drop_eq_nil_of_le (by omega)]
  refine ⟨fun h => by simp at h, fun _ => ?_⟩
  conv => lhs; unfold f191_L0
  rw [ifd_neg (by omega)]
 | d + 1, k, n, hn, hk => by
  obtain ⟨k, rfl⟩ : ∃ z, k = z + 1 := ⟨k - 1, by omega⟩
  obtain ⟨i1, i2⟩ := f191_L0_eq x hl c m s K d k (n + 1) (by omega) (by omega)
  have e : f191_L0 x K (k + 1) (n, c, m, s) = if ((x.getD n default).1 == c && (x.getD n default).2.1 == m) = true then some ((n : Int), c, m, s) else f191_L0 x K k (n + 1, c, m, s) := by
   conv => lhs; unfold f191_L0
   rw [ifd_pos (by omega)]
   unfold f179 f180
   simp only [some_bind]
   rw [chk_pos (by omega), chk_pos (by omega)]
  rw [e, getD_drop x n default (by omega), List.any_cons]
  cases h : ((x.getD n default).1 == c && (x.getD n default).2.1 == m)
  ·simp only [Bool.false_or, Bool.false_eq_true, if_false]
   exact ⟨i1, i2⟩
  ·refine ⟨fun _ => ⟨n, by simp⟩, fun h => by simp at h⟩
theorem f159_eq (x : List Ss) (hl : x.length ≤ 1000000) (c m : Int) (s : List UInt8) : f159 x c m s = some (x.any (fun p => p.1 == c && p.2.1 == m)) := by
 unfold f159 f178 f191
 rw [jn_eq]
 obtain ⟨h1, h2⟩ := f191_L0_eq x hl c m s (fun ((i10, i11, s12) : Tq1) => some ((-1 : Int), i10, i11, s12)) x.length FUEL 0 (by omega) (fuel_lt (by omega))
 rw [List.drop_zero] at h1 h2
 cases h : x.any (fun p => p.1 == c && p.2.1 == m)
 ·rw [h2 h]
  rfl
 ·obtain ⟨i, hi⟩ := h1 h
  rw [hi]
  simp [some_bind]
theorem f136_L0_eq (x : List Ss) (hl : x.length ≤ 1000000) : ∀ (d k n : Nat), n + d = x.length → d < k → ∃ v, f136_L0 x (fun _ => some 0) k n = some v ∧ (v = 0 ↔ ∀ i, n ≤ i → i < x.length → okAt x i = true)
 | 0, k, n, hn, hk => by
  obtain ⟨k, rfl⟩ : ∃ z, k = z + 1 := ⟨k - 1, by omega⟩
  refine ⟨0, ?_, by simp; omega⟩
  conv => lhs; unfold f136_L0
  rw [ifd_neg (by omega)]
 | d + 1, k, n, hn, hk => by
  obtain ⟨k, rfl⟩ : ∃ z, k = z + 1 := ⟨k - 1, by omega⟩
  obtain ⟨v, hv, hi⟩ := f136_L0_eq x hl d k (n + 1) (by omega) (by omega)
  have hg := good_iff (x.getD n default).1 (x.getD n default).2.1 (x.getD n default).2.2
  have bad : okAt x n = false → ∀ w : Int, w ≠ 0 → (w = 0 ↔ ∀ i, n ≤ i → i < x.length → okAt x i = true) := fun h w hw =>
   ⟨fun e => absurd e hw, fun h' => by have := h' n (Nat.le_refl _) (by omega); rw [h] at this; cases this⟩
  have gbad : good (x.getD n default) ≠ true → okAt x n = false := fun h => by
   unfold okAt
   simp only [Bool.not_eq_true] at h
   rw [h, Bool.false_and]
  conv => enter [1, v, 1, 1]; unfold f136_L0
  rw [ifd_pos (by omega), chk_pos (by omega)]
  generalize hq : x.getD n default = q at *
  by_cases h1 : 0 ≤ q.1 ∧ q.1 < 6 ∧ 1 ≤ q.2.1 ∧ q.2.1 ≤ 1000000
  ·rw [if_neg (by simp; omega)]
   by_cases h2 : q.2.2 = []
   ·rw [if_pos (by simp [h2])]
    exact ⟨_, rfl, bad (gbad fun h => (hg.1 h).2.2.2.2.1 h2) _ (by decide)⟩
   ·rw [if_neg (by simpa using h2)]
    by_cases h3 : q.2.2.length ≤ 200
    ·rw [ifd_neg (by omega), f159_eq _ (by rw [List.length_take]; omega), some_bind, chk_pos (by omega)]
     have hgd : good q = true := hg.2 ⟨h1.1, h1.2.1, h1.2.2.1, h1.2.2.2, h2, h3⟩
     cases ha : (x.take n).any (fun p => p.1 == q.1 && p.2.1 == q.2.1)
     ·rw [if_neg (by simp), chk_pos (by omega)]
      refine ⟨v, hv, hi.trans ⟨fun h i h4 h5 => ?_, fun h i h4 h5 => h i (by omega) h5⟩⟩
      by_cases hin : i = n
      ·subst hin
       unfold okAt
       rw [hq, hgd, ha]
       rfl
      ·exact h i (by omega) h5
     ·rw [if_pos rfl]
      exact ⟨_, rfl, bad (by unfold okAt; rw [hq, ha]; simp) _ (by decide)⟩
    ·rw [ifd_pos (by omega)]
     exact ⟨_, rfl, bad (gbad fun h => h3 (hg.1 h).2.2.2.2.2) _ (by decide)⟩
  ·rw [if_pos (by simp; omega)]
   exact ⟨_, rfl, bad (gbad fun h => h1 (by have := hg.1 h; omega)) _ (by decide)⟩
theorem f104_eq (k c : Int) (l : List Ss) (hl : l.length ≤ 1000000) : ∃ v, f104 k c l = some v ∧ (v = 0 ↔ okE k c l) := by
 unfold f104 okE
 by_cases h1 : k = 1
 ·subst h1
  rw [if_pos (by decide)]
  by_cases hc : c = 0
  ·rw [if_neg (by simp [hc])]
   by_cases h8 : l.length ≤ 8
   ·rw [ifd_neg (by omega)]
    obtain ⟨v, hv, hi⟩ := f136_L0_eq l hl l.length FUEL 0 (by omega) (fuel_lt (by omega))
    have h136 : f136 l = some v := by
     unfold f136
     rw [jn_eq]
     exact hv
    rw [h136]
    refine ⟨v, rfl, hi.trans ⟨fun h => .inl ⟨rfl, hc, h8, fun i h2 => h i (Nat.zero_le _) h2⟩, ?_⟩⟩
    rintro (⟨_, _, _, h⟩ | ⟨h, _⟩ | ⟨h, _⟩)
    ·exact fun i _ h2 => h i h2
    ·omega
    ·omega
   ·rw [ifd_pos (by omega)]
    exact ⟨_, rfl, by simp; omega⟩
  ·rw [if_pos (by simpa using hc)]
   exact ⟨_, rfl, by simp; omega⟩
 ·rw [if_neg (by simpa using h1)]
  have hn : l = [] ↔ l.length = 0 := List.length_eq_zero_iff.symm
  by_cases h2 : k = 2
  ·subst h2
   rw [if_pos (by decide)]
   by_cases h3 : 0 ≤ c ∧ c < 6 ∧ l = []
   ·rw [if_neg (by rw [h3.2.2]; simp; omega)]
    exact ⟨_, rfl, by simp [h3]⟩
   ·rw [if_pos (by rw [hn] at h3; simp only [Bool.or_eq_true, decide_eq_true_eq]; omega)]
    exact ⟨_, rfl, fun h => absurd h (by decide), fun h => by
     rcases h with ⟨h, _⟩ | ⟨_, h5, h6, h7⟩ | ⟨h, _⟩
     ·omega
     ·exact absurd ⟨h5, h6, h7⟩ h3
     ·omega⟩
  ·rw [if_neg (by simpa using h2)]
   by_cases h3 : k = 3
   ·subst h3
    rw [if_pos (by decide)]
    by_cases h4 : c = 0 ∧ l = []
    ·rw [if_neg (by rw [h4.2]; simp; omega)]
     exact ⟨_, rfl, by simp [h4]⟩
    ·rw [if_pos (by rw [hn] at h4; simp only [Bool.or_eq_true, bne_iff_ne, decide_eq_true_eq]; omega)]
     exact ⟨_, rfl, fun h => absurd h (by decide), fun h => by
      rcases h with ⟨h, _⟩ | ⟨h, _⟩ | ⟨_, h5, h6⟩
      ·omega
      ·omega
      ·exact absurd ⟨h5, h6⟩ h4⟩
   ·rw [if_neg (by simpa using h3)]
    exact ⟨_, rfl, by simp; omega⟩
theorem f56_eq (n : Int) (h : -9223372036854775808 ≤ n ∧ n ≤ 9223372036854775807) : f56 n = some (Lib.itoa n) := by
 unfold f56 itoaO
 rw [if_pos h]
theorem f58_eq (L : List (List UInt8)) (h : (plist L).length ≤ 1000000) (hl : L.length ≤ 1000000) : f58 L = some (plist L) := by
 unfold f58 plistO
 rw [if_pos (by omega)]
theorem f105_L0_eq (x : List Ss) (hl : x.length ≤ 8) (hx : ∀ q, q ∈ x → good q = true) (K : List (List UInt8) → Option (List UInt8)) : ∀ (d k n : Nat) (a : List (List UInt8)), n + d = x.length → d < k → a.length ≤ 1 + 3 * n → f105_L0 x K k (n, a) = K (a ++ flt (x.drop n))
 | 0, k, n, a, hn, hk, ha => by
  obtain ⟨k, rfl⟩ : ∃ z, k = z + 1 := ⟨k - 1, by omega⟩
  rw [List.drop_eq_nil_of_le (by omega)]
  conv => lhs; unfold f105_L0
  rw [ifd_neg (by omega)]
  simp [flt]
 | d + 1, k, n, a, hn, hk, ha => by
  obtain ⟨k, rfl⟩ : ∃ z, k = z + 1 := ⟨k - 1, by omega⟩
  have hg := good_of (hx _ (getD_mem x n default (by omega)))
  have ih := f105_L0_eq x hl hx K d k (n + 1) (a ++ [Lib.itoa (x.getD n default).1, Lib.itoa (x.getD n default).2.1, (x.getD n default).2.2]) (by omega) (by omega) (by simp; omega)
  conv => lhs; unfold f105_L0
  rw [ifd_pos (by omega), chk_pos (by omega), f56_eq _ (by omega), some_bind, f56_eq _ (by omega), some_bind, chk_pos (by omega), chk_pos (by omega), ih, getD_drop x n default (by omega), flt_cons]
  simp
theorem f105_eq {k c : Int} {l : List Ss} (h : okE k c l) : f105 k c l = some (plist (strs k c l)) := by
 have hl := val_len h
 have hs := strs_small h
 rcases h with ⟨rfl, rfl, h1, h2⟩ | ⟨rfl, h1, h2, rfl⟩ | ⟨rfl, rfl, rfl⟩
 ·have e : strs 1 0 l = cs12 :: flt l := by rw [strs, if_neg (by decide), if_neg (by decide)]
  rw [e] at hl hs ⊢
  unfold f105
  rw [if_neg (by decide), if_neg (by decide), jn_eq, f105_L0_eq l h1 (okRs_mem h2) _ l.length FUEL 0 [cs12] (by omega) (fuel_lt (by omega)) (by simp), List.drop_zero]
  rw [List.singleton_append, f58_eq _ (by omega) (by omega)]
  rfl
 ·have e : strs 2 c [] = [joinW, Lib.itoa c] := by rw [strs, if_pos rfl]
  rw [e] at hl hs ⊢
  unfold f105
  rw [if_pos (by decide), f56_eq _ (by omega), some_bind]
  have := f58_eq [joinW, Lib.itoa c] (by omega) (by omega)
  unfold joinW at this ⊢
  rw [this]
  rfl
 ·have e : strs 3 0 [] = [cs11] := by rw [strs, if_neg (by decide), if_pos rfl]
  rw [e] at hl hs ⊢
  unfold f105
  rw [if_neg (by decide), if_pos (by decide), f58_eq _ (by omega) (by omega)]
  rfl
open Classical in
theorem tail_eq (x : List UInt8) (n c : Int) (l : List Ss) (hl : l.length ≤ 1000000) :
  ((f104 n c l).bind fun (r11 : Int) =>
   optc ((r11 != (0 : Int)) == false) (f105 n c l) fun (r12 : List UInt8) =>
   if ((r11 != (0 : Int)) || (!(r12 == x))) then some ((0 : Int), (0 : Int), ([] : List Ss), (2 : Int)) else some (n, c, l, (0 : Int))) = some (if okE n c l ∧ plist (strs n c l) = x then (n, c, l, 0) else errE) := by
 obtain ⟨v, hv, hi⟩ := f104_eq n c l hl
 rw [hv, some_bind]
 by_cases h : v = 0
 ·have hE := hi.1 h
  subst h
  rw [f105_eq hE]
  rw [show (((0 : Int) != 0) == false) = true from rfl, optc_t, some_bind]
  by_cases he : plist (strs n c l) = x
  ·rw [if_neg (by simp [he]), if_pos ⟨hE, he⟩]
  ·rw [if_pos (by simp [he]), if_neg (fun h => he h.2)]
   rfl
 ·have hE : ¬ okE n c l := fun hE => h (hi.2 hE)
  have e : ((v != (0 : Int)) == false) = false := by simpa using h
  rw [e, optc_f, if_pos (by simp [h]), if_neg (fun h => hE h.1)]
  rfl
end Go.Abs
namespace Go.Abs
open Go
theorem f59_L0_some (K : Nat × Int × List Ss → Option Ent) : ∀ (d k : Nat) (L : List (List UInt8)) (a : List Ss), L.length ≤ d → d < k → (∀ s, s ∈ L → s.length ≤ 1000000) → L.length ≤ 1000000 → a.length + L.length ≤ 1000000 → ∃ l, l.length ≤ 1000000 ∧ f59_L0 K k (L, a) = K (1, 0, l) := by
 intro d
 induction d with
 | zero =>
  intro k L a hL hk _ _ ha
  obtain ⟨k, rfl⟩ : ∃ z, k = z + 1 := ⟨k - 1, by omega⟩
  refine ⟨a, by omega, ?_⟩
  conv => lhs; unfold f59_L0
  rw [ifd_neg (by omega)]
 | succ d ih =>
  intro k L a hL hk hs hl ha
  obtain ⟨k, rfl⟩ : ∃ z, k = z + 1 := ⟨k - 1, by omega⟩
  by_cases h3 : 3 ≤ L.length
  ·obtain ⟨v0, b0, h0, _⟩ := atoiO_some (L.getD 0 []) (by have := hs _ (getD_mem L 0 [] (by omega)); omega)
   obtain ⟨v1, b1, h1, _⟩ := atoiO_some (L.getD 1 []) (by have := hs _ (getD_mem L 1 [] (by omega)); omega)
   obtain ⟨l, hl2, h⟩ := ih k (L.drop 3) (a ++ [(v0, v1, L.getD 2 [])]) (by rw [List.length_drop]; omega) (by omega) (fun s hs' => hs s (List.mem_of_mem_drop hs')) (by rw [List.length_drop]; omega) (by rw [List.length_drop, List.length_append]; simp only [List.length_singleton]; omega)
   refine ⟨l, hl2, ?_⟩
   conv => lhs; unfold f59_L0
   unfold f103
   rw [ifd_pos (by omega), h0, some_bind, chk_pos (by omega), h1, some_bind, chk_pos (by omega), chk_pos (by omega), chk_pos (by omega), chk_pos (by omega)]
   exact h
  ·refine ⟨a, by omega, ?_⟩
   conv => lhs; unfold f59_L0
   rw [ifd_neg (by omega)]
theorem f59_L0_flt (K : Nat × Int × List Ss → Option Ent) : ∀ (l a : List Ss) (k : Nat), l.length < k → (∀ q, q ∈ l → good q = true) → a.length + l.length ≤ 1000 → f59_L0 K k (flt l, a) = K (1, 0, a ++ l)
 | [], a, k, hk, _, _ => by
  obtain ⟨k, rfl⟩ : ∃ z, k = z + 1 := ⟨k - 1, by omega⟩
  conv => lhs; unfold f59_L0
  rw [ifd_neg (by simp [flt]), List.append_nil]
 | (c, n, s) :: l, a, k, hk, hg, ha => by
  obtain ⟨k, rfl⟩ : ∃ z, k = z + 1 := ⟨k - 1, by omega⟩
  simp only [List.length_cons] at hk ha
  have h := good_of (hg _ (List.mem_cons_self ..))
  simp only at h
  have ih := f59_L0_flt K l (a ++ [(c, n, s)]) k (by omega) (fun q hq => hg q (List.mem_cons_of_mem _ hq)) (by simp; omega)
  conv => lhs; unfold f59_L0
  unfold f103
  rw [flt_cons]
  simp only [List.getD_cons_zero, List.getD_cons_succ, List.length_cons, List.drop_succ_cons, List.drop_zero]
  rw [ifd_pos (by omega), atoiO_itoa c (by omega) (by omega), some_bind, chk_pos (by omega), atoiO_itoa n (by omega) (by omega), some_bind, chk_pos (by omega), chk_pos (by omega), chk_pos (by omega), chk_pos (by omega), ih]
  simp
open Classical in
theorem f59_hit {k c : Int} {l : List Ss} (h : okE k c l) : f59 (plist (strs k c l)) = some (k, c, l, 0) := by
 have hl := val_len h
 have hs := strs_small h
 have h84 := f84_plist (strs k c l) (by omega) (fun s hs' => by have := hs.1 s hs'; omega) (by omega)
 have key : ∀ n : Nat, k = (n : Int) → l.length ≤ 1000000 → ((f104 (n : Int) c l).bind fun (r11 : Int) =>
   optc ((r11 != (0 : Int)) == false) (f105 (n : Int) c l) fun (r12 : List UInt8) =>
   if ((r11 != (0 : Int)) || (!(r12 == plist (strs k c l)))) then some ((0 : Int), (0 : Int), ([] : List Ss), (2 : Int)) else some ((n : Int), c, l, (0 : Int))) = some (k, c, l, 0) := by
  intro n hn hl1
  subst hn
  rw [tail_eq _ _ _ _ hl1, if_pos ⟨h, rfl⟩]
 unfold f59
 rw [h84, some_bind]
 dsimp only
 rw [if_neg (by simp; intro e; rw [e] at hs; simp at hs), chk_pos (by omega), jn_eq, chk_pos (by omega)]
 rcases h with ⟨rfl, rfl, h1, h2⟩ | ⟨rfl, h1, h2, rfl⟩ | ⟨rfl, rfl, rfl⟩
 ·have e : strs 1 0 l = cs12 :: flt l := by rw [strs, if_neg (by decide), if_neg (by decide)]
  generalize hx : plist (strs 1 0 l) = x at *
  rw [e] at *
  rw [if_neg (by simp; intro h; exact absurd h (by decide)), chk_pos (by simp), if_neg (by simp; decide), List.drop_succ_cons, List.drop_zero]
  rw [f59_L0_flt _ l [] FUEL (fuel_lt (by omega)) (okRs_mem h2) (by simp; omega), List.nil_append]
  exact key 1 rfl (by omega)
 ·have e : strs 2 c [] = [joinW, Lib.itoa c] := by rw [strs, if_pos rfl]
  generalize hx : plist (strs 2 c []) = x at *
  rw [e] at *
  unfold f103
  rw [if_pos (by rfl)]
  simp only [List.drop_succ_cons, List.drop_zero, List.getD_cons_zero]
  rw [atoiO_itoa c (by omega) (by omega), some_bind, chk_pos (by simp)]
  exact key 2 rfl (by simp)
 ·have e : strs 3 0 [] = [cs11] := by rw [strs, if_neg (by decide), if_pos rfl]
  generalize hx : plist (strs 3 0 []) = x at *
  rw [e] at *
  rw [if_neg (by decide), chk_pos (by simp), if_pos (by rfl)]
  exact key 3 rfl (by simp)
open Classical in
theorem f59_miss (x : List UInt8) (hx : x.length ≤ 1000000) (h : ∀ k c l, okE k c l → plist (strs k c l) ≠ x) : f59 x = some errE := by
 obtain ⟨j, e, L, h84, hs, hl⟩ := f84_some x hx
 have key : ∀ (n : Nat) c l, l.length ≤ 1000000 → ((f104 (n : Int) c l).bind fun (r11 : Int) =>
   optc ((r11 != (0 : Int)) == false) (f105 (n : Int) c l) fun (r12 : List UInt8) =>
   if ((r11 != (0 : Int)) || (!(r12 == x))) then some ((0 : Int), (0 : Int), ([] : List Ss), (2 : Int)) else some ((n : Int), c, l, (0 : Int))) = some errE := by
  intro n c l hl1
  rw [tail_eq _ _ _ _ hl1, if_neg (fun hh => h _ _ _ hh.1 hh.2)]
 unfold f59
 rw [h84, some_bind]
 dsimp only
 by_cases h0 : ((e != 0) || (((L.length : Nat) : Int) == 0)) = true
 ·rw [if_pos h0]
  rfl
 ·have hL : 1 ≤ L.length := by
   simp only [Bool.or_eq_true, bne_iff_ne, beq_iff_eq] at h0
   omega
  rw [if_neg h0, chk_pos (by omega), jn_eq, chk_pos (by omega)]
  by_cases h1 : ((L.getD 0 [] == ([106, 111, 105, 110] : List UInt8)) && ((((L.drop 1).length : Nat) : Int) == 1)) = true
  ·rw [if_pos h1]
   have h1' : (L.drop 1).length = 1 := by
    simp only [Bool.and_eq_true, beq_iff_eq] at h1
    omega
   obtain ⟨v0, b0, h0, _⟩ := atoiO_some ((L.drop 1).getD 0 []) (by have := hs _ (List.mem_of_mem_drop (getD_mem (L.drop 1) 0 [] (by omega))); omega)
   unfold f103
   rw [h0, some_bind, chk_pos (by omega)]
   exact key 2 _ _ (by simp)
  ·rw [if_neg h1, chk_pos (by omega)]
   by_cases h2 : (L.getD 0 [] == cs11) = true
   ·rw [if_pos h2]
    exact key 3 _ _ (by simp)
   ·rw [if_neg h2]
    obtain ⟨l, hl2, e2⟩ := f59_L0_some _ (L.drop 1).length FUEL (L.drop 1) [] (Nat.le_refl _) (fuel_lt (by rw [List.length_drop]; omega)) (fun s hs' => by have := hs s (List.mem_of_mem_drop hs'); omega) (by rw [List.length_drop]; omega) (by rw [List.length_drop]; simp; omega)
    rw [e2]
    exact key 1 _ _ hl2
end Go.Abs
namespace Go.Abs
open Go
theorem f145_vint (n : Nat) (hn : n < 16384) : f145 FUEL (n : Int) = some (vint n) := by
 obtain ⟨k, hk⟩ : ∃ k, FUEL = k + 2 := ⟨FUEL - 2, by unfold FUEL; omega⟩
 rw [hk]
 by_cases h : n < 128
 ·rw [f145_small n h (k + 1), vint_lt h]
 ·have e1 : (n : Int) / 128 = ((n / 128 : Nat) : Int) := by omega
  conv => lhs; unfold f145
  rw [ifd_neg (by omega), e1, f145_small (n / 128) (by omega) k, some_bind, chk_pos (by omega), chk_pos (by omega), chk_pos (by omega), chk_pos (by omega), chk_pos (by simp), vint_ge h, vint_lt (show n / 128 < 128 by omega)]
  have e2 : ((n : Int) % 128 + 128).toNat = n % 128 + 128 := by omega
  rw [e2]
  rfl
theorem f115_L0_eq (x : List (List UInt8)) (hx : ∀ s, s ∈ x → s.length ≤ 200) (hl : x.length ≤ 25) (K : List UInt8 → Option (List UInt8)) : ∀ c k n s, n + c = x.length → c < k → s.length ≤ 2 + 202 * n → f115_L0 x K k (s, n) = K (s ++ items (x.drop n))
 | 0, k, n, s, hn, hk, hs => by
  obtain ⟨k, rfl⟩ : ∃ z, k = z + 1 := ⟨k - 1, by omega⟩
  rw [List.drop_eq_nil_of_le (by omega)]
  conv => lhs; unfold f115_L0
  rw [ifd_neg (by omega)]
  simp [items]
 | c + 1, k, n, s, hn, hk, hs => by
  obtain ⟨k, rfl⟩ : ∃ z, k = z + 1 := ⟨k - 1, by omega⟩
  have hxn := hx _ (getD_mem x n [] (by omega))
  have hv := vint_len 1 (x.getD n []).length (by omega)
  have hsl : (s ++ vint (x.getD n []).length).length = s.length + (vint (x.getD n []).length).length := List.length_append
  have hsl2 : ((s ++ vint (x.getD n []).length) ++ x.getD n []).length = s.length + (vint (x.getD n []).length).length + (x.getD n []).length := by rw [List.length_append, List.length_append]
  have ih := f115_L0_eq x hx hl K c k (n + 1) ((s ++ vint (x.getD n []).length) ++ x.getD n []) (by omega) (by omega) (by omega)
  conv => lhs; unfold f115_L0
  rw [ifd_pos (by omega), f145_vint _ (by omega), some_bind, chk_pos (by omega), chk_pos (by omega), chk_pos (by omega), chk_pos (by omega), chk_pos (by omega), ih, getD_drop x n [] (by omega), items_cons]
  simp [item]
theorem f115_eq (x : List (List UInt8)) (hx : ∀ s, s ∈ x → s.length ≤ 200) (hl : x.length ≤ 25) : f115 x = some (plist x) := by
 have hv := vint_len 1 x.length (by omega)
 unfold f115
 rw [f145_vint _ (by omega), some_bind, jn_eq]
 exact f115_L0_eq x hx hl (fun s6 => some s6) x.length FUEL 0 (vint x.length) (by omega) (fuel_lt (by omega)) (by omega)
theorem f74_L0_eq (x : List Ss) (hl : x.length ≤ 8) (hx : ∀ q, q ∈ x → good q = true) (K : List (List UInt8) → Option (List UInt8)) : ∀ (d k n : Nat) (a : List (List UInt8)), n + d = x.length → d < k → a.length ≤ 1 + 3 * n → f74_L0 x K k (n, a) = K (a ++ flt (x.drop n))
 | 0, k, n, a, hn, hk, ha => by
  obtain ⟨k, rfl⟩ : ∃ z, k = z + 1 := ⟨k - 1, by omega⟩
  rw [List.drop_eq_nil_of_le (by omega)]
  conv => lhs; unfold f74_L0
  rw [ifd_neg (by omega)]
  simp [flt]
 | d + 1, k, n, a, hn, hk, ha => by
  obtain ⟨k, rfl⟩ : ∃ z, k = z + 1 := ⟨k - 1, by omega⟩
  have hg := good_of (hx _ (getD_mem x n default (by omega)))
  have ih := f74_L0_eq x hl hx K d k (n + 1) (a ++ [Lib.itoa (x.getD n default).1, Lib.itoa (x.getD n default).2.1, (x.getD n default).2.2]) (by omega) (by omega) (by simp; omega)
  conv => lhs; unfold f74_L0
  rw [ifd_pos (by omega), chk_pos (by omega), dig116 (by omega) (by omega), some_bind, dig116 (by omega) (by omega), some_bind, chk_pos (by omega), chk_pos (by omega), ih, getD_drop x n default (by omega), flt_cons]
  simp
theorem f74_eq {k c : Int} {l : List Ss} (h : okE k c l) : f74 k c l = some (plist (strs k c l)) := by
 have hs := strs_small h
 rcases h with ⟨rfl, rfl, h1, h2⟩ | ⟨rfl, h1, h2, rfl⟩ | ⟨rfl, rfl, rfl⟩
 ·have e : strs 1 0 l = cs12 :: flt l := by rw [strs, if_neg (by decide), if_neg (by decide)]
  rw [e] at hs ⊢
  unfold f74
  rw [if_neg (by decide), if_neg (by decide), jn_eq, f74_L0_eq l h1 (okRs_mem h2) _ l.length FUEL 0 [cs12] (by omega) (fuel_lt (by omega)) (by simp), List.drop_zero]
  rw [List.singleton_append, f115_eq _ hs.1 hs.2.1]
  rfl
 ·have e : strs 2 c [] = [joinW, Lib.itoa c] := by rw [strs, if_pos rfl]
  rw [e] at hs ⊢
  unfold f74
  rw [if_pos (by decide), dig116 (by omega) (by omega), some_bind]
  have := f115_eq [joinW, Lib.itoa c] hs.1 hs.2.1
  unfold joinW at this ⊢
  rw [this]
  rfl
 ·have e : strs 3 0 [] = [cs11] := by rw [strs, if_neg (by decide), if_pos rfl]
  rw [e] at hs ⊢
  unfold f74
  rw [if_neg (by decide), if_pos (by decide), f115_eq _ hs.1 hs.2.1]
  rfl
theorem f47_L0_eq (x : List Ss) (hl : x.length ≤ 1000000) (c m : Int) (s : List UInt8) : ∀ (d k n : Nat), n + d = x.length → d < k → f47_L0 x c m s (fun _ => some false) k n = some ((x.drop n).any (fun p => p.1 == c && p.2.1 == m))
 | 0, k, n, hn, hk => by
  obtain ⟨k, rfl⟩ : ∃ z, k = z + 1 := ⟨k - 1, by omega⟩
  rw [List.drop_eq_nil_of_le (by omega)]
  conv => lhs; unfold f47_L0
  rw [ifd_neg (by omega)]
  rfl
 | d + 1, k, n, hn, hk => by
  obtain ⟨k, rfl⟩ : ∃ z, k = z + 1 := ⟨k - 1, by omega⟩
  have ih := f47_L0_eq x hl c m s d k (n + 1) (by omega) (by omega)
  conv => lhs; unfold f47_L0
  unfold f83
  rw [ifd_pos (by omega), some_bind, chk_pos (by omega), chk_pos (by omega), ih, getD_drop x n default (by omega), List.any_cons]
  cases ((x.getD n default).1 == c && (x.getD n default).2.1 == m)
  ·rw [if_neg (by simp), Bool.false_or]
  ·rw [if_pos rfl, Bool.true_or]
theorem f47_eq (x : List Ss) (hl : x.length ≤ 1000000) (c m : Int) (s : List UInt8) : f47 x c m s = some (x.any (fun p => p.1 == c && p.2.1 == m)) := by
 unfold f47
 rw [jn_eq]
 exact f47_L0_eq x hl c m s x.length FUEL 0 (by omega) (fuel_lt (by omega))
theorem f114_eq (c n : Int) (op : List UInt8) : ∃ v, f114 c n op = some v ∧ (v = 0 ↔ good (c, n, op) = true) := by
 unfold f114
 rw [good_iff]
 by_cases h1 : 0 ≤ c ∧ c < 6 ∧ 1 ≤ n ∧ n ≤ 1000000
 ·rw [if_neg (by simp; omega)]
  by_cases h2 : op = []
  ·rw [if_pos (by simp [h2])]
   exact ⟨_, rfl, by simp [h2]⟩
  ·rw [if_neg (by simpa using h2)]
   by_cases h3 : op.length ≤ 200
   ·rw [ifd_neg (by omega)]
    exact ⟨_, rfl, by simp [h1, h2, h3]⟩
   ·rw [ifd_pos (by omega)]
    exact ⟨_, rfl, by simp; omega⟩
 ·rw [if_pos (by simp; omega)]
  exact ⟨_, rfl, by simp; omega⟩
theorem f73_L0_eq (x : List Ss) (hl : x.length ≤ 1000000) : ∀ (d k n : Nat), n + d = x.length → d < k → ∃ v, f73_L0 x (fun _ => some 0) k n = some v ∧ (v = 0 ↔ ∀ i, n ≤ i → i < x.length → okAt x i = true)
 | 0, k, n, hn, hk => by
  obtain ⟨k, rfl⟩ : ∃ z, k = z + 1 := ⟨k - 1, by omega⟩
  refine ⟨0, ?_, by simp; omega⟩
  conv => lhs; unfold f73_L0
  rw [ifd_neg (by omega)]
 | d + 1, k, n, hn, hk => by
  obtain ⟨k, rfl⟩ : ∃ z, k = z + 1 := ⟨k - 1, by omega⟩
  obtain ⟨v, hv, hi⟩ := f73_L0_eq x hl d k (n + 1) (by omega) (by omega)
  obtain ⟨w, hw, hg⟩ := f114_eq (x.getD n default).1 (x.getD n default).2.1 (x.getD n default).2.2
  have bad : okAt x n = false → ∀ w : Int, w ≠ 0 → (w = 0 ↔ ∀ i, n ≤ i → i < x.length → okAt x i = true) := fun h w hw =>
   ⟨fun e => absurd e hw, fun h' => by have := h' n (Nat.le_refl _) (by omega); rw [h] at this; cases this⟩
  conv => enter [1, v, 1, 1]; unfold f73_L0
  rw [ifd_pos (by omega), hw, some_bind, chk_pos (by omega)]
  by_cases h0 : w = 0
  ·have hgd : good (x.getD n default) = true := hg.1 h0
   rw [if_neg (by simpa using h0), f47_eq _ (by rw [List.length_take]; omega), some_bind, chk_pos (by omega), chk_pos (by omega)]
   cases ha : (x.take n).any (fun p => p.1 == (x.getD n default).1 && p.2.1 == (x.getD n default).2.1)
   ·rw [if_neg (by simp), chk_pos (by omega)]
    refine ⟨v, hv, hi.trans ⟨fun h i h4 h5 => ?_, fun h i h4 h5 => h i (by omega) h5⟩⟩
    by_cases hin : i = n
    ·subst hin
     unfold okAt
     rw [hgd, ha]
     rfl
    ·exact h i (by omega) h5
   ·rw [if_pos rfl]
    exact ⟨_, rfl, bad (by unfold okAt; rw [ha]; simp) _ (by decide)⟩
  ·rw [if_pos (by simpa using h0)]
   refine ⟨_, rfl, bad ?_ _ h0⟩
   have : ¬ good (x.getD n default) = true := fun h => h0 (hg.2 h)
   unfold okAt
   simp only [Bool.not_eq_true] at this
   rw [this, Bool.false_and]
theorem f41_gen (k c : Int) (l : List Ss) (hl : l.length ≤ 1000000) : ∃ v, f41 k c l = some v ∧ (v = 0 ↔ okE k c l) := by
 have hn : l = [] ↔ l.length = 0 := List.length_eq_zero_iff.symm
 unfold f41
 rw [chk_pos (by intro h1 _ h2; rw [h1, h2]; rfl), chk_pos (by intro h1 _ h2; rw [h1, h2]; rfl)]
 by_cases h1 : (k = 1 ∧ c = 0) ∨ (k = 2 ∧ 0 ≤ c ∧ c < 6 ∧ l.length = 0) ∨ (k = 3 ∧ c = 0 ∧ l.length = 0)
 ·rw [if_neg (by simp only [Bool.or_eq_true, Bool.and_eq_true, Bool.not_eq_true', beq_eq_false_iff_ne, bne_iff_ne, decide_eq_true_eq]; omega)]
  by_cases h8 : l.length ≤ 8
  ·rw [ifd_neg (by omega)]
   obtain ⟨v, hv, hi⟩ := f73_L0_eq l hl l.length FUEL 0 (by omega) (fuel_lt (by omega))
   have h73 : f73 l = some v := by
    unfold f73
    rw [jn_eq]
    exact hv
   rw [h73, some_bind]
   have hE : okE k c l ↔ v = 0 := by
    rw [hi]
    unfold okE
    rw [hn]
    constructor
    ·rintro (⟨_, _, _, h⟩ | ⟨_, _, _, h⟩ | ⟨_, _, h⟩)
     ·exact fun i _ h2 => h i h2
     ·intro i _ h2; omega
     ·intro i _ h2; omega
    ·intro h
     rcases h1 with ⟨h3, h4⟩ | h3 | h3
     ·exact .inl ⟨h3, h4, h8, fun i h2 => h i (Nat.zero_le _) h2⟩
     ·exact .inr (.inl h3)
     ·exact .inr (.inr h3)
   by_cases h0 : v = 0
   ·have hE' := hE.2 h0
    rw [if_neg (by simpa using h0), f74_eq hE', some_bind]
    have := val_len hE'
    rw [ifd_neg (by omega)]
    exact ⟨0, rfl, by simp [hE']⟩
   ·rw [if_pos (by simpa using h0)]
    exact ⟨v, rfl, hE.symm⟩
  ·rw [ifd_pos (by omega)]
   refine ⟨_, rfl, fun h => absurd h (by decide), fun h => ?_⟩
   unfold okE at h
   rw [hn] at h
   omega
 ·rw [if_pos (by simp only [Bool.or_eq_true, Bool.and_eq_true, Bool.not_eq_true', beq_eq_false_iff_ne, bne_iff_ne, decide_eq_true_eq]; omega)]
  refine ⟨_, rfl, fun h => absurd h (by decide), fun h => ?_⟩
  unfold okE at h
  rw [hn] at h
  omega
open Classical in
theorem tail2_eq (x : List UInt8) (n c : Int) (l : List Ss) (hl : l.length ≤ 1000000) :
  ((f41 n c l).bind fun (r11 : Int) =>
   optc ((r11 != (0 : Int)) == false) (f74 n c l) fun (r12 : List UInt8) =>
   if ((r11 != (0 : Int)) || (!(r12 == x))) then some ((0 : Int), (0 : Int), ([] : List Ss), (2 : Int)) else some (n, c, l, (0 : Int))) = some (if okE n c l ∧ plist (strs n c l) = x then (n, c, l, 0) else errE) := by
 obtain ⟨v, hv, hi⟩ := f41_gen n c l hl
 rw [hv, some_bind]
 by_cases h : v = 0
 ·have hE := hi.1 h
  subst h
  rw [f74_eq hE]
  rw [show (((0 : Int) != 0) == false) = true from rfl, optc_t, some_bind]
  by_cases he : plist (strs n c l) = x
  ·rw [if_neg (by simp [he]), if_pos ⟨hE, he⟩]
  ·rw [if_pos (by simp [he]), if_neg (fun h => he h.2)]
   rfl
 ·have hE : ¬ okE n c l := fun hE => h (hi.2 hE)
  have e : ((v != (0 : Int)) == false) = false := by simpa using h
  rw [e, optc_f, if_pos (by simp [h]), if_neg (fun h => hE h.1)]
  rfl
end Go.Abs
namespace Go.Abs
open Go
theorem f118_some (x : List UInt8) (m : Nat) (hx : x.length ≤ 1000000) : ∃ n j : Nat, f118 x (m : Int) = some ((n : Int), (j : Int)) ∧ (j = 0 ∨ (1 ≤ j ∧ j ≤ x.length ∧ n ≤ m)) := by
 have hb := fun i => (x.getD i 0).toNat_lt
 unfold f118
 by_cases h0 : x = []
 ·rw [if_pos (by simp [h0])]
  exact ⟨0, 0, rfl, .inl rfl⟩
 ·have hl : 0 < x.length := List.length_pos_iff.2 h0
  have b0 := hb 0
  have b1 := hb 1
  rw [if_neg (by simpa using h0), chk_pos (by omega), chk_pos (by omega), jn_eq]
  generalize (x.getD 0 0).toNat = a at *
  generalize (x.getD 1 0).toNat = b at *
  by_cases h1 : 128 ≤ a
  ·rw [ifd_pos (by omega)]
   by_cases h2 : x.length < 2
   ·have e : decide ((x.length : Int) < 2) = true := by simp; omega
    rw [e]
    refine ⟨0, 0, ?_, .inl rfl⟩
    simp [chk]
   ·have e : decide ((x.length : Int) < 2) = false := by simp; omega
    rw [e, chk_pos (fun _ => by omega), chk_pos (fun _ => by omega)]
    by_cases h3 : b = 0 ∨ 128 ≤ b
    ·rw [if_pos (by simp; omega)]
     exact ⟨0, 0, rfl, .inl rfl⟩
    ·rw [if_neg (by simp; omega), chk_pos (by omega), chk_pos (by omega), chk_pos (by omega), chk_pos (by omega), chk_pos (by omega)]
     dsimp only
     by_cases h4 : a - 128 + 128 * b ≤ m
     ·rw [ifd_neg (by omega)]
      exact ⟨a - 128 + 128 * b, 2, by congr 2; omega, .inr ⟨by omega, by omega, h4⟩⟩
     ·rw [ifd_pos (by omega)]
      exact ⟨0, 0, rfl, .inl rfl⟩
  ·rw [ifd_neg (by omega)]
   dsimp only
   by_cases h4 : a ≤ m
   ·rw [ifd_neg (by omega)]
    exact ⟨a, 1, rfl, .inr ⟨by omega, by omega, h4⟩⟩
   ·rw [ifd_pos (by omega)]
    exact ⟨0, 0, rfl, .inl rfl⟩
theorem f118_vint (n m : Nat) (r : List UInt8) (hn : n ≤ m) (hm : m < 16384) : f118 (vint n ++ r) (m : Int) = some ((n : Int), ((vint n).length : Int)) := by
 unfold f118
 by_cases h : n < 128
 ·rw [vint_lt h]
  have e : (([UInt8.ofNat n] ++ r).getD 0 0).toNat = n := by simp [UInt8.toNat_ofNat']; omega
  rw [if_neg (by simp), chk_pos (by simp), e, chk_pos (by omega), jn_eq, ifd_neg (by omega)]
  dsimp only
  rw [ifd_neg (by omega)]
  rfl
 ·rw [vint_ge h, vint_lt (show n / 128 < 128 by omega)]
  generalize hy : UInt8.ofNat (n % 128 + 128) :: [UInt8.ofNat (n / 128)] ++ r = y
  have e0 : (y.getD 0 0).toNat = n % 128 + 128 := by rw [← hy]; simp [UInt8.toNat_ofNat']; omega
  have e1 : (y.getD 1 0).toNat = n / 128 := by rw [← hy]; simp [UInt8.toNat_ofNat']; omega
  have hl : 2 ≤ y.length := by rw [← hy]; simp
  have hne : y ≠ [] := fun h => by rw [h] at hl; simp at hl
  rw [if_neg (by simpa using hne), chk_pos (by omega), e0, e1, chk_pos (by omega), jn_eq, ifd_pos (by omega)]
  have e : decide ((y.length : Int) < 2) = false := by simp; omega
  rw [e, chk_pos (fun _ => by omega), chk_pos (fun _ => by omega), if_neg (by simp; omega), chk_pos (by omega), chk_pos (by omega), chk_pos (by omega), chk_pos (by omega), chk_pos (by omega)]
  have ev : ((((n % 128 + 128 : Nat) : Int) - 128) + ((128 * (n / 128) : Nat) : Int)) = (n : Int) := by omega
  rw [ev]
  dsimp only
  rw [ifd_neg (by omega)]
  rfl
theorem f81_L0_some (x : List UInt8) (hx : x.length ≤ 1000000) (r2 : Int × Int) (K : Int × List (List UInt8) → Option (Bool × List (List UInt8))) (hK : ∀ i l, ∃ b, K (i, l) = some (b, l)) :
  ∀ (c k i n : Nat) (l : List (List UInt8)), i + c = x.length → c < k → n ≤ i → l.length = n → (∀ s, s ∈ l → s.length ≤ x.length) → ∃ b l', f81_L0 x r2 K k ((i : Int), n, l) = some (b, l') ∧ (∀ s, s ∈ l' → s.length ≤ x.length) ∧ l'.length ≤ x.length := by
 intro c
 induction c using Nat.strongRecOn with
 | ind c ih =>
  intro k i n l hi hk hn hl hs
  obtain ⟨k, rfl⟩ : ∃ z, k = z + 1 := ⟨k - 1, by omega⟩
  by_cases hr : (n : Int) < r2.1
  ·obtain ⟨m, j, h, hb⟩ := f118_some (x.drop i) 200 (by rw [List.length_drop]; omega)
   rw [List.length_drop] at hb
   conv => enter [1, b, 1, l', 1, 1]; unfold f81_L0
   have h' : f118 (List.drop i x) 200 = some ((m : Int), (j : Int)) := h
   rw [ifd_pos hr, Int.toNat_natCast, h', some_bind]
   dsimp only
   rw [chk_pos (by omega)]
   by_cases hj : j = 0
   ·subst hj
    rw [chk_pos (fun h => by simp at h), chk_pos (fun h => by simp at h), if_pos (by simp)]
    exact ⟨_, _, rfl, by simp, by simp⟩
   ·have hb' : 1 ≤ j ∧ j ≤ x.length - i ∧ m ≤ 200 := by omega
    rw [chk_pos (fun _ => by omega), chk_pos (fun _ => by omega)]
    by_cases hle : i + j + m ≤ x.length
    ·rw [if_neg (by simp; omega), chk_pos (by omega), chk_pos (by omega), chk_pos (by omega), chk_pos (by omega), chk_pos (by omega), chk_pos (by omega), chk_pos (by omega), chk_pos (by omega)]
     have e : (i : Int) + (j : Int) + (m : Int) = ((i + j + m : Nat) : Int) := by omega
     rw [e]
     exact ih (c - (j + m)) (by omega) k (i + j + m) (n + 1) _ (by omega) (by omega) (by omega) (by simp [hl]) (fun t ht => by
      rcases List.mem_append.1 ht with ht | ht
      ·exact hs t ht
      ·simp only [List.mem_singleton] at ht
       subst ht
       rw [List.length_drop, List.length_take]
       omega)
    ·rw [if_pos (by simp; omega)]
     exact ⟨_, _, rfl, by simp, by simp⟩
  ·obtain ⟨b, h⟩ := hK i l
   refine ⟨b, l, ?_, hs, by omega⟩
   conv => lhs; unfold f81_L0
   rw [ifd_neg hr]
   exact h
theorem f81_some (x : List UInt8) (hx : x.length ≤ 1000000) : ∃ b L, f81 x = some (b, L) ∧ (∀ s, s ∈ L → s.length ≤ x.length) ∧ L.length ≤ x.length := by
 obtain ⟨m, j, h, hb⟩ := f118_some x 25 hx
 have h' : f118 x 25 = some ((m : Int), (j : Int)) := h
 unfold f81
 rw [h', some_bind]
 by_cases hj : j = 0
 ·subst hj
  rw [if_pos (by rfl)]
  exact ⟨_, _, rfl, by simp, by simp⟩
 ·rw [if_neg (by simp; omega), jn_eq]
  exact f81_L0_some x hx _ _ (fun i l => ⟨_, rfl⟩) (x.length - j) FUEL j 0 [] (by omega) (fuel_lt (by omega)) (by omega) rfl (by simp)
theorem f81_L0_items (x : List UInt8) (hx : x.length ≤ 1000000) (r2 : Int × Int) (K : Int × List (List UInt8) → Option (Bool × List (List UInt8))) (L : List (List UInt8)) (hr : r2.1 = (L.length : Int)) :
  ∀ (M : List (List UInt8)) (A : List UInt8) (D : List (List UInt8)) (k : Nat), (∀ s, s ∈ M → s.length ≤ 200) → x = A ++ items M → L = D ++ M → D.length ≤ A.length → M.length < k → f81_L0 x r2 K k ((A.length : Int), D.length, D) = K ((x.length : Int), L)
 | [], A, D, k, _, hxe, hL, _, hk => by
  obtain ⟨k, rfl⟩ : ∃ z, k = z + 1 := ⟨k - 1, by omega⟩
  have e1 : x.length = A.length := by rw [hxe]; simp [items]
  have e2 : L = D := by rw [hL]; simp
  conv => lhs; unfold f81_L0
  rw [ifd_neg (by rw [hr, e2]; omega), e1, e2]
 | s :: M, A, D, k, hM, hxe, hL, hD, hk => by
  obtain ⟨k, rfl⟩ : ∃ z, k = z + 1 := ⟨k - 1, by omega⟩
  simp only [List.length_cons] at hk
  have hl : L.length = D.length + (M.length + 1) := by rw [hL]; simp
  have e1 : x.drop A.length = vint s.length ++ (s ++ items M) := by rw [hxe, List.drop_left, items_cons, item, List.append_assoc]
  have hsl := hM s (List.mem_cons_self ..)
  have hv := vint_pos s.length
  have hil : (item s).length = (vint s.length).length + s.length := by rw [item, List.length_append]
  have hxl : x.length = A.length + ((item s).length + (items M).length) := by rw [hxe, items_cons]; simp
  have h : f118 (vint s.length ++ (s ++ items M)) 200 = some ((s.length : Int), ((vint s.length).length : Int)) := f118_vint s.length 200 _ hsl (by omega)
  have ih := f81_L0_items x hx r2 K L hr M (A ++ item s) (D ++ [s]) k (fun t ht => hM t (List.mem_cons_of_mem _ ht)) (by rw [hxe, items_cons]; simp) (by rw [hL]; simp) (by
   simp only [List.length_append, List.length_singleton]
   omega) (by omega)
  have cut : (x.take (A.length + (vint s.length).length + s.length)).drop (A.length + (vint s.length).length) = s := by
   have : x = (A ++ vint s.length) ++ (s ++ items M) := by rw [hxe, items_cons, item]; simp
   rw [this, ← List.length_append, List.drop_take, List.drop_left, Nat.add_sub_cancel_left, List.take_left]
  conv => lhs; unfold f81_L0
  rw [ifd_pos (by rw [hr]; omega), Int.toNat_natCast, e1, h, some_bind]
  dsimp only
  rw [chk_pos (by omega), chk_pos (fun _ => by omega), chk_pos (fun _ => by omega), if_neg (by simp only [Bool.or_eq_true, beq_iff_eq, decide_eq_true_eq]; omega), chk_pos (by omega), chk_pos (by omega), chk_pos (by omega), chk_pos (by omega), chk_pos (by omega), chk_pos (by omega), chk_pos (by omega), chk_pos (by omega)]
  have ea : (A.length : Int) + ((vint s.length).length : Int) = ((A.length + (vint s.length).length : Nat) : Int) := by omega
  have eb : ((A.length + (vint s.length).length : Nat) : Int) + (s.length : Int) = ((A.length + (vint s.length).length + s.length : Nat) : Int) := by omega
  rw [ea, eb, Int.toNat_natCast, Int.toNat_natCast, cut, ← ih]
  simp only [List.length_append, List.length_singleton, hil, Nat.add_assoc]
theorem f81_plist (L : List (List UInt8)) (hL : L.length ≤ 25) (hs : ∀ s, s ∈ L → s.length ≤ 200) : f81 (plist L) = some (true, L) := by
 have hx := plist_len L 200 (by omega) (by omega) hs
 have hx' : (plist L).length ≤ 1000000 := by
  have : L.length * (200 + 2) ≤ 25 * 202 := Nat.mul_le_mul hL (Nat.le_refl _)
  omega
 have hv := vint_pos L.length
 have h : f118 (plist L) 25 = some ((L.length : Int), ((vint L.length).length : Int)) := by
  rw [plist_items]
  exact f118_vint L.length 25 _ hL (by omega)
 unfold f81
 rw [h, some_bind, if_neg (by simp only [beq_iff_eq]; omega), jn_eq]
 have := f81_L0_items (plist L) hx' ((L.length : Int), ((vint L.length).length : Int)) (fun ((i7, l8) : Int × List (List UInt8)) => some ((i7 == (((plist L).length : Nat) : Int)), l8)) L rfl L (vint L.length) [] FUEL hs rfl rfl (Nat.zero_le _) (fuel_lt (by omega))
 refine this.trans ?_
 simp
theorem f82_L0_some (x : List UInt8) (hx : x.length ≤ 1000000) (K : Int → Option Int) : ∀ (d k n : Nat) (i : Int), n + d = x.length → d < k → 0 ≤ i → i < 10 ^ n → n ≤ 7 → f82_L0 x K k (i, n) = some (-1) ∨ ∃ j, 0 ≤ j ∧ j ≤ 9999999 ∧ f82_L0 x K k (i, n) = K j
 | 0, k, n, i, hn, hk, h0, h1, h7 => by
  obtain ⟨k, rfl⟩ : ∃ z, k = z + 1 := ⟨k - 1, by omega⟩
  have h10 : (10 : Int) ^ n ≤ 10 ^ 7 := by
   have : (10 : Nat) ^ n ≤ 10 ^ 7 := Nat.pow_le_pow_right (by decide) h7
   exact_mod_cast this
  refine .inr ⟨i, h0, by omega, ?_⟩
  conv => lhs; unfold f82_L0
  rw [ifd_neg (by omega)]
 | d + 1, k, n, i, hn, hk, h0, h1, h7 => by
  obtain ⟨k, rfl⟩ : ∃ z, k = z + 1 := ⟨k - 1, by omega⟩
  have h10 : (10 : Int) ^ n ≤ 10 ^ 7 := by
   have : (10 : Nat) ^ n ≤ 10 ^ 7 := Nat.pow_le_pow_right (by decide) h7
   exact_mod_cast this
  generalize hc : (x.getD n 0).toNat = c
  have e : f82_L0 x K (k + 1) (i, n) = if (((decide (((c : Nat) : Int) < (48 : Int))) || (decide (((c : Nat) : Int) > (57 : Int)))) || (decide ((n : Int) > (6 : Int)))) = true then some (-1) else
    chk (0 ≤ (((c : Nat) : Int) - (48 : Int)) ∧ (((c : Nat) : Int) - (48 : Int)) ≤ 255) (f82_L0 x K k (10 * i + (((c : Nat) : Int) - 48), n + 1)) := by
   conv => lhs; unfold f82_L0
   rw [hc, ifd_pos (by omega), chk_pos (by omega), chk_pos (fun _ => by omega)]
   by_cases hb : (((decide (((c : Nat) : Int) < (48 : Int))) || (decide (((c : Nat) : Int) > (57 : Int)))) || (decide ((n : Int) > (6 : Int)))) = true
   ·rw [if_pos hb, if_pos hb]
   ·rw [if_neg hb, if_neg hb]
    simp only [Bool.or_eq_true, decide_eq_true_eq] at hb
    rw [chk_pos (by omega), chk_pos (by omega), chk_pos (by omega), chk_pos (by omega), chk_pos (by omega), chk_pos (by omega), chk_pos (by omega)]
  rw [e]
  by_cases hb : (((decide (((c : Nat) : Int) < (48 : Int))) || (decide (((c : Nat) : Int) > (57 : Int)))) || (decide ((n : Int) > (6 : Int)))) = true
  ·rw [if_pos hb]
   exact .inl rfl
  ·rw [if_neg hb]
   simp only [Bool.or_eq_true, decide_eq_true_eq] at hb
   rw [chk_pos (by omega)]
   exact f82_L0_some x hx K d k (n + 1) _ (by omega) (by omega) (by omega) (by rw [Int.pow_succ]; omega) (by omega)
theorem f82_some (s : List UInt8) (hx : s.length ≤ 1000000) : ∃ v, f82 s = some v := by
 unfold f82
 rw [jn_eq]
 rcases f82_L0_some s hx (fun (i4 : Int) => optc ((s == []) == false) (f116 FUEL i4) fun (r5 : List UInt8) => if ((s == []) || (!(r5 == s))) then some (-1 : Int) else some i4) s.length FUEL 0 0 (by omega) (fuel_lt (by omega)) (by omega) (by simp) (by omega) with h | ⟨j, h1, h2, h⟩
 ·exact ⟨_, h⟩
 ·have hd := dig116 (n := j) h1 (by omega)
  by_cases h0 : s = []
  ·refine ⟨-1, h.trans ?_⟩
   have e : (s == []) = true := by simp [h0]
   rw [e]
   rfl
  ·have e : (s == []) = false := by simpa using h0
   by_cases h3 : Lib.itoa j = s
   ·refine ⟨j, h.trans ?_⟩
    rw [e, hd, show ((false : Bool) == false) = true from rfl, optc_t, some_bind, if_neg (by simp [h3])]
   ·refine ⟨-1, h.trans ?_⟩
    rw [e, hd, show ((false : Bool) == false) = true from rfl, optc_t, some_bind, if_pos (by simp [h3])]
theorem f82_L0_parse (x : List UInt8) (hx : x.length ≤ 7) (K : Int → Option Int) : ∀ (d k n i v : Nat), n + d = x.length → d < k → i < 10 ^ n → Lib.parseUint10 i (x.drop n) = .ok v → f82_L0 x K k ((i : Int), n) = K (v : Int)
 | 0, k, n, i, v, hn, hk, h1, hp => by
  obtain ⟨k, rfl⟩ : ∃ z, k = z + 1 := ⟨k - 1, by omega⟩
  rw [List.drop_eq_nil_of_le (by omega)] at hp
  simp only [Lib.parseUint10, Lib.NumEnd.ok.injEq] at hp
  conv => lhs; unfold f82_L0
  rw [ifd_neg (by omega), hp]
 | d + 1, k, n, i, v, hn, hk, h1, hp => by
  obtain ⟨k, rfl⟩ : ∃ z, k = z + 1 := ⟨k - 1, by omega⟩
  have h10 : (10 : Nat) ^ n ≤ 10 ^ 7 := Nat.pow_le_pow_right (by decide) (by omega)
  rw [getD_drop x n 0 (by omega)] at hp
  simp only [Lib.parseUint10] at hp
  generalize hc : (x.getD n 0).toNat = c at hp
  split at hp
  case isFalse => cases hp
  rename_i h48
  rw [if_neg (by omega), if_neg (by omega)] at hp
  have ih := f82_L0_parse x hx K d k (n + 1) (i * 10 + (c - 48)) v (by omega) (by omega) (by rw [Nat.pow_succ]; omega) hp
  conv => lhs; unfold f82_L0
  rw [hc, ifd_pos (by omega), chk_pos (by omega), chk_pos (fun _ => by omega), if_neg (by simp; omega), chk_pos (by omega), chk_pos (by omega), chk_pos (by omega), chk_pos (by omega), chk_pos (by omega), chk_pos (by omega), ← ih]
  have e : (10 : Int) * (i : Int) + (((c : Nat) : Int) - 48) = ((i * 10 + (c - 48) : Nat) : Int) := by omega
  rw [e]
theorem f82_itoa (n : Int) (h0 : 0 ≤ n) (h1 : n ≤ 9999999) : f82 (Lib.itoa n) = some n := by
 have hl := itoa_len7 n h0 h1
 obtain ⟨m, rfl⟩ : ∃ m : Nat, n = m := ⟨n.toNat, by omega⟩
 have e : Lib.itoa (m : Int) = Lib.decDigits m := by rw [Lib.itoa, if_neg (by omega), Int.toNat_natCast]
 have hp := parse_dig m (by omega)
 have hd := dig116 (n := (m : Int)) h0 (by omega)
 have hne := dig_ne m
 rw [e] at hl hd ⊢
 unfold f82
 rw [jn_eq]
 refine (f82_L0_parse (Lib.decDigits m) hl _ (Lib.decDigits m).length FUEL 0 0 m (by omega) (fuel_lt (by omega)) (by simp) (by rw [List.drop_zero]; exact hp)).trans ?_
 have e2 : (Lib.decDigits m == []) = false := by simpa using hne
 rw [e2, hd, show ((false : Bool) == false) = true from rfl, optc_t, some_bind, if_neg (by simp)]
theorem f46_L0_some (b : Bool) (L : List (List UInt8)) (hs : ∀ s, s ∈ L → s.length ≤ 1000000) (hl : L.length ≤ 1000000) (K : Nat × Int × List Ss → Option Ent) : ∀ (d k n : Nat) (a : List Ss), n + 3 * d = L.length → d < k → a.length ≤ n → ∃ l, l.length ≤ 1000000 ∧ f46_L0 (b, L) K k (n, a) = K (1, 0, l)
 | 0, k, n, a, hn, hk, ha => by
  obtain ⟨k, rfl⟩ : ∃ z, k = z + 1 := ⟨k - 1, by omega⟩
  refine ⟨a, by omega, ?_⟩
  conv => lhs; unfold f46_L0
  rw [ifd_neg (by dsimp only; omega)]
 | d + 1, k, n, a, hn, hk, ha => by
  obtain ⟨k, rfl⟩ : ∃ z, k = z + 1 := ⟨k - 1, by omega⟩
  obtain ⟨v0, h0⟩ := f82_some (L.getD n []) (hs _ (getD_mem L n [] (by omega)))
  obtain ⟨v1, h1⟩ := f82_some (L.getD (n + 1) []) (hs _ (getD_mem L (n + 1) [] (by omega)))
  obtain ⟨l, hl2, h⟩ := f46_L0_some b L hs hl K d k (n + 3) (a ++ [(v0, v1, L.getD (n + 2) [])]) (by omega) (by omega) (by simp; omega)
  refine ⟨l, hl2, ?_⟩
  conv => lhs; unfold f46_L0
  dsimp only
  rw [ifd_pos (by omega), h0, some_bind, h1, some_bind, chk_pos (by omega), chk_pos (by omega), chk_pos (by omega), chk_pos (by omega), chk_pos (by omega), chk_pos (by omega), chk_pos (by omega), chk_pos (by omega), chk_pos (by omega), chk_pos (by omega)]
  exact h
theorem f46_L0_flt (b : Bool) (K : Nat × Int × List Ss → Option Ent) (w : List UInt8) (M : List Ss) (hM : M.length ≤ 8) : ∀ (l a : List Ss) (k : Nat), M = a ++ l → l.length < k → (∀ q, q ∈ l → good q = true) → f46_L0 (b, w :: flt M) K k (1 + 3 * a.length, a) = K (1, 0, M)
 | [], a, k, hMe, hk, _ => by
  obtain ⟨k, rfl⟩ : ∃ z, k = z + 1 := ⟨k - 1, by omega⟩
  have e : M = a := by rw [hMe, List.append_nil]
  have hfl : (w :: flt M).length = 1 + 3 * M.length := by rw [List.length_cons, flt_len]; omega
  conv => lhs; unfold f46_L0
  dsimp only
  rw [ifd_neg (by rw [hfl, e]; omega), e]
 | (c, n, s) :: l, a, k, hMe, hk, hg => by
  obtain ⟨k, rfl⟩ : ∃ z, k = z + 1 := ⟨k - 1, by omega⟩
  simp only [List.length_cons] at hk
  have h := good_of (hg _ (List.mem_cons_self ..))
  simp only at h
  have hml : M.length = a.length + (l.length + 1) := by rw [hMe]; simp
  have hfl : (w :: flt M).length = 1 + 3 * M.length := by rw [List.length_cons, flt_len]; omega
  have hf : flt M = flt a ++ (Lib.itoa c :: Lib.itoa n :: s :: flt l) := by rw [hMe]; simp [flt]
  have g : ∀ i, i < 3 → (w :: flt M).getD (1 + 3 * a.length + i) [] = [Lib.itoa c, Lib.itoa n, s].getD i [] := by
   intro i hi
   rw [show 1 + 3 * a.length + i = (3 * a.length + i) + 1 by omega, List.getD_cons_succ, hf, List.getD_eq_getElem?_getD, List.getElem?_append_right (by rw [flt_len]; omega), flt_len, Nat.add_sub_cancel_left]
   match i, hi with
   | 0, _ => rfl
   | 1, _ => rfl
   | 2, _ => rfl
  have g0 : (w :: flt M).getD (1 + 3 * a.length) [] = Lib.itoa c := g 0 (by omega)
  have g1 : (w :: flt M).getD (1 + 3 * a.length + 1) [] = Lib.itoa n := g 1 (by omega)
  have g2 : (w :: flt M).getD (1 + 3 * a.length + 2) [] = s := g 2 (by omega)
  have ih := f46_L0_flt b K w M hM l (a ++ [(c, n, s)]) k (by rw [hMe]; simp) (by omega) (fun q hq => hg q (List.mem_cons_of_mem _ hq))
  conv => lhs; unfold f46_L0
  dsimp only
  rw [g0, g1, g2, ifd_pos (by omega), f82_itoa c (by omega) (by omega), some_bind, f82_itoa n (by omega) (by omega), some_bind, chk_pos (by omega), chk_pos (by omega), chk_pos (by omega), chk_pos (by omega), chk_pos (by omega), chk_pos (by omega), chk_pos (by omega), chk_pos (by omega), chk_pos (by omega), chk_pos (by omega), ← ih]
  have e : (a ++ [(c, n, s)]).length = a.length + 1 := by simp
  rw [e]
  rfl
end Go.Abs
namespace Go.Abs
open Go
open Classical in
theorem f46_hit {k c : Int} {l : List Ss} (h : okE k c l) : f46 (plist (strs k c l)) = some (k, c, l, 0) := by
 have hs := strs_small h
 have h81 := f81_plist (strs k c l) hs.2.1 hs.1
 have key : ∀ n : Nat, k = (n : Int) → l.length ≤ 1000000 → ((f41 (n : Int) c l).bind fun (r11 : Int) =>
   optc ((r11 != (0 : Int)) == false) (f74 (n : Int) c l) fun (r12 : List UInt8) =>
   if ((r11 != (0 : Int)) || (!(r12 == plist (strs k c l)))) then some ((0 : Int), (0 : Int), ([] : List Ss), (2 : Int)) else some ((n : Int), c, l, (0 : Int))) = some (k, c, l, 0) := by
  intro n hn hl1
  subst hn
  rw [tail2_eq _ _ _ _ hl1, if_pos ⟨h, rfl⟩]
 unfold f46
 rw [h81, some_bind]
 dsimp only
 rw [if_neg (by simp only [Bool.not_true, Bool.false_or, beq_iff_eq]; omega), jn_eq, chk_pos (by omega), chk_pos (by omega)]
 rcases h with ⟨rfl, rfl, h1, h2⟩ | ⟨rfl, h1, h2, rfl⟩ | ⟨rfl, rfl, rfl⟩
 ·have e : strs 1 0 l = cs12 :: flt l := by rw [strs, if_neg (by decide), if_neg (by decide)]
  generalize hx : plist (strs 1 0 l) = x at *
  rw [e] at *
  have hfl : (cs12 :: flt l).length = 1 + 3 * l.length := by rw [List.length_cons, flt_len]; omega
  have n1 : ((cs12 :: flt l).getD 0 [] == cs11) = false := rfl
  have n2 : ((cs12 :: flt l).getD 0 [] == ([106, 111, 105, 110] : List UInt8)) = false := rfl
  have n3 : ((cs12 :: flt l).getD 0 [] == cs12) = true := rfl
  rw [n1, n2, n3, if_neg (by decide), chk_pos (by omega), chk_pos (by omega), Bool.false_and, if_neg (by decide), chk_pos (by omega), chk_pos (by omega), chk_pos (fun _ => by omega), if_pos (by simp only [Bool.true_and, beq_iff_eq]; omega)]
  have := f46_L0_flt true (fun ((n3, i4, l5) : Nat × Int × (List Ss)) =>
   (f41 (n3 : Int) i4 l5).bind fun (r11 : Int) =>
   optc ((r11 != (0 : Int)) == false) (f74 (n3 : Int) i4 l5) fun (r12 : List UInt8) =>
   if ((r11 != (0 : Int)) || (!(r12 == x))) then some ((0 : Int), (0 : Int), ([] : List Ss), (2 : Int)) else some ((n3 : Int), i4, l5, (0 : Int))) cs12 l h1 l [] FUEL rfl (fuel_lt (by omega)) (okRs_mem h2)
  exact this.trans (key 1 rfl (by omega))
 ·have e : strs 2 c [] = [joinW, Lib.itoa c] := by rw [strs, if_pos rfl]
  generalize hx : plist (strs 2 c []) = x at *
  rw [e] at *
  have n1 : ([joinW, Lib.itoa c].getD 0 [] == cs11) = false := rfl
  have n2 : ([joinW, Lib.itoa c].getD 0 [] == ([106, 111, 105, 110] : List UInt8)) = true := rfl
  rw [n1, n2, if_neg (by decide), chk_pos (by simp), chk_pos (by simp), if_pos (by rfl)]
  simp only [List.getD_cons_succ, List.getD_cons_zero]
  rw [f82_itoa c (by omega) (by omega), some_bind, chk_pos (by simp), chk_pos (by simp)]
  exact key 2 rfl (by simp)
 ·have e : strs 3 0 [] = [cs11] := by rw [strs, if_neg (by decide), if_pos rfl]
  generalize hx : plist (strs 3 0 []) = x at *
  rw [e] at *
  rw [if_pos (by rfl)]
  exact key 3 rfl (by simp)
open Classical in
theorem f46_miss (x : List UInt8) (hx : x.length ≤ 1000000) (h : ∀ k c l, okE k c l → plist (strs k c l) ≠ x) : f46 x = some errE := by
 obtain ⟨b, L, h81, hs, hl⟩ := f81_some x hx
 have key : ∀ (n : Nat) c l, l.length ≤ 1000000 → ((f41 (n : Int) c l).bind fun (r11 : Int) =>
   optc ((r11 != (0 : Int)) == false) (f74 (n : Int) c l) fun (r12 : List UInt8) =>
   if ((r11 != (0 : Int)) || (!(r12 == x))) then some ((0 : Int), (0 : Int), ([] : List Ss), (2 : Int)) else some ((n : Int), c, l, (0 : Int))) = some errE := by
  intro n c l hl1
  rw [tail2_eq _ _ _ _ hl1, if_neg (fun hh => h _ _ _ hh.1 hh.2)]
 unfold f46
 rw [h81, some_bind]
 dsimp only
 by_cases h0 : ((!b) || (((L.length : Nat) : Int) == 0)) = true
 ·rw [if_pos h0]
  rfl
 ·have hL : 1 ≤ L.length := by
   simp only [Bool.or_eq_true, beq_iff_eq] at h0
   omega
  rw [if_neg h0, jn_eq, chk_pos (by omega), chk_pos (by omega)]
  by_cases h2 : (L.getD 0 [] == cs11) = true
  ·rw [if_pos h2]
   exact key 3 _ _ (by simp)
  ·rw [if_neg h2, chk_pos (by omega), chk_pos (by omega)]
   by_cases h1 : ((L.getD 0 [] == ([106, 111, 105, 110] : List UInt8)) && (((L.length : Nat) : Int) == 2)) = true
   ·rw [if_pos h1]
    have h1' : L.length = 2 := by
     simp only [Bool.and_eq_true, beq_iff_eq] at h1
     omega
    obtain ⟨v, hv⟩ := f82_some (L.getD 1 []) (by have := hs _ (getD_mem L 1 [] (by omega)); omega)
    rw [hv, some_bind, chk_pos (by omega), chk_pos (by omega)]
    exact key 2 _ _ (by simp)
   ·rw [if_neg h1, chk_pos (by omega), chk_pos (by omega), chk_pos (fun _ => by omega)]
    by_cases h3 : ((L.getD 0 [] == cs12) && (((L.length % 3 : Nat) : Int) == 1)) = true
    ·rw [if_pos h3]
     simp only [Bool.and_eq_true, beq_iff_eq] at h3
     obtain ⟨l, hl2, e⟩ := f46_L0_some b L (fun s hs' => by have := hs s hs'; omega) (by omega) (fun ((n3, i4, l5) : Nat × Int × (List Ss)) =>
      (f41 (n3 : Int) i4 l5).bind fun (r11 : Int) =>
      optc ((r11 != (0 : Int)) == false) (f74 (n3 : Int) i4 l5) fun (r12 : List UInt8) =>
      if ((r11 != (0 : Int)) || (!(r12 == x))) then some ((0 : Int), (0 : Int), ([] : List Ss), (2 : Int)) else some ((n3 : Int), i4, l5, (0 : Int))) (L.length / 3) FUEL 1 [] (by omega) (fuel_lt (by omega)) (by simp)
     exact e.trans (key 1 _ _ hl2)
    ·rw [if_neg h3]
     exact key 0 _ _ (by simp)
theorem dec_both (x : List UInt8) (hx : x.length ≤ 1000000) : ∃ k c l e, f59 x = some (k, c, l, e) ∧ f46 x = some (k, c, l, e) ∧ l.length ≤ 8 := by
 by_cases h : ∃ k c l, okE k c l ∧ plist (strs k c l) = x
 ·obtain ⟨k, c, l, hE, rfl⟩ := h
  refine ⟨k, c, l, 0, f59_hit hE, f46_hit hE, ?_⟩
  rcases hE with ⟨_, _, h, _⟩ | ⟨_, _, _, rfl⟩ | ⟨_, _, rfl⟩
  ·exact h
  ·simp
  ·simp
 ·have h' : ∀ k c l, okE k c l → plist (strs k c l) ≠ x := fun k c l hE e => h ⟨k, c, l, hE, e⟩
  exact ⟨_, _, _, _, f59_miss x hx h', f46_miss x hx h', by simp⟩
def resR (m : Mc) (q : Ss) : List UInt8 := ((f15 m.1 m.2 q.1 q.2.1 q.2.2).getD ([], [], [])).2.2
theorem stpR_ex2 {m : Mc} (q : Ss) (hm : McV m) : f11 m.1 m.2 q.1 q.2.1 q.2.2 = some ((stpR m q).1, (stpR m q).2, resR m q) ∧ f15 m.1 m.2 q.1 q.2.1 q.2.2 = some ((stpR m q).1, (stpR m q).2, resR m q) ∧ McV (stpR m q) := by
 obtain ⟨s, h1, h2, ha⟩ := stpR_ex q hm
 have e : resR m q = s := by
  unfold resR
  rw [h2]; rfl
 rw [e]
 exact ⟨h1, h2, ha.ok⟩
def entR (m : Mc) : List Ss → Mc × List Ss
 | [] => (m, [])
 | q :: l => ((entR (stpR m q) l).1, (q.1, q.2.1, resR m q) :: (entR (stpR m q) l).2)
theorem entR_ok : ∀ (l : List Ss) (m : Mc), McV m → McV (entR m l).1
 | [], _, h => h
 | q :: l, m, h => entR_ok l (stpR m q) (stpR_ex2 q h).2.2
theorem entR_len : ∀ (l : List Ss) (m : Mc), (entR m l).2.length = l.length
 | [], _ => rfl
 | q :: l, m => by simp [entR, entR_len l]
theorem f28_L0_eq (r4 : Ent) (h8 : r4.2.2.1.length ≤ 8) (K : List Pr × List Ss × List Ss → Option (List Pr × List Ss × List Ss)) : ∀ (d k n : Nat) (m : Mc) (a : List Ss), McV m → n + d = r4.2.2.1.length → d < k → a.length ≤ n →
  f28_L0 r4 K k (n, m.1, m.2, a) = K ((entR m (r4.2.2.1.drop n)).1.1, (entR m (r4.2.2.1.drop n)).1.2, a ++ (entR m (r4.2.2.1.drop n)).2)
 | 0, k, n, m, a, hm, hn, hk, ha => by
  obtain ⟨k, rfl⟩ : ∃ z, k = z + 1 := ⟨k - 1, by omega⟩
  rw [List.drop_eq_nil_of_le (by omega)]
  conv => lhs; unfold f28_L0
  rw [ifd_neg (by omega)]
  simp [entR]
 | d + 1, k, n, m, a, hm, hn, hk, ha => by
  obtain ⟨k, rfl⟩ : ∃ z, k = z + 1 := ⟨k - 1, by omega⟩
  obtain ⟨h1, _, h3⟩ := stpR_ex2 (r4.2.2.1.getD n default) hm
  have ih := f28_L0_eq r4 h8 K d k (n + 1) (stpR m (r4.2.2.1.getD n default)) (a ++ [((r4.2.2.1.getD n default).1, (r4.2.2.1.getD n default).2.1, resR m (r4.2.2.1.getD n default))]) h3 (by omega) (by omega) (by simp; omega)
  conv => lhs; unfold f28_L0
  rw [ifd_pos (by omega), chk_pos (by omega), h1, some_bind, chk_pos (by omega), chk_pos (by omega), ih, getD_drop r4.2.2.1 n default (by omega)]
  simp [entR]
theorem f29_L0_eq (r4 : Ent) (h8 : r4.2.2.1.length ≤ 8) (K : List Pr × List Ss × List Ss → Option (List Pr × List Ss × List Ss)) : ∀ (d k n : Nat) (m : Mc) (a : List Ss), McV m → n + d = r4.2.2.1.length → d < k → a.length ≤ n →
  f29_L0 r4 K k (n, m.1, m.2, a) = K ((entR m (r4.2.2.1.drop n)).1.1, (entR m (r4.2.2.1.drop n)).1.2, a ++ (entR m (r4.2.2.1.drop n)).2)
 | 0, k, n, m, a, hm, hn, hk, ha => by
  obtain ⟨k, rfl⟩ : ∃ z, k = z + 1 := ⟨k - 1, by omega⟩
  rw [List.drop_eq_nil_of_le (by omega)]
  conv => lhs; unfold f29_L0
  rw [ifd_neg (by omega)]
  simp [entR]
 | d + 1, k, n, m, a, hm, hn, hk, ha => by
  obtain ⟨k, rfl⟩ : ∃ z, k = z + 1 := ⟨k - 1, by omega⟩
  obtain ⟨_, h1, h3⟩ := stpR_ex2 (r4.2.2.1.getD n default) hm
  have ih := f29_L0_eq r4 h8 K d k (n + 1) (stpR m (r4.2.2.1.getD n default)) (a ++ [((r4.2.2.1.getD n default).1, (r4.2.2.1.getD n default).2.1, resR m (r4.2.2.1.getD n default))]) h3 (by omega) (by omega) (by simp; omega)
  conv => lhs; unfold f29_L0
  rw [ifd_pos (by omega), chk_pos (by omega), h1, some_bind, chk_pos (by omega), chk_pos (by omega), ih, getD_drop r4.2.2.1 n default (by omega)]
  simp [entR]
theorem entry_both (m : Mc) (hm : McV m) (v : List UInt8) (hv : v.length ≤ 1000000) : ∃ m' rs, f28 m.1 m.2 v = some (m'.1, m'.2, rs) ∧ f29 m.1 m.2 v = some (m'.1, m'.2, rs) ∧ McV m' ∧ rs.length ≤ 8 := by
 obtain ⟨k, c, l, e, h1, h2, h8⟩ := dec_both v hv
 unfold f28 f29
 rw [h1, h2, some_bind, some_bind]
 by_cases he : (e != 0) = true
 ·rw [if_pos he, if_pos he]
  exact ⟨m, [], rfl, rfl, hm, by simp⟩
 ·rw [if_neg he, if_neg he, jn_eq, jn_eq]
  have a1 := f28_L0_eq (k, c, l, e) h8 (fun ((l10, l11, l12) : List Pr × List Ss × List Ss) => some (l10, l11, l12)) l.length FUEL 0 m [] hm (by simp) (fuel_lt (by omega)) (by simp)
  have a2 := f29_L0_eq (k, c, l, e) h8 (fun ((l10, l11, l12) : List Pr × List Ss × List Ss) => some (l10, l11, l12)) l.length FUEL 0 m [] hm (by simp) (fuel_lt (by omega)) (by simp)
  exact ⟨(entR m l).1, (entR m l).2, a1, a2, entR_ok l m hm, by rw [entR_len]; exact h8⟩
end Go.Abs
namespace Go.Abs
def stpV (m : Mc) (v : List UInt8) : Mc := let t := (f29 m.1 m.2 v).getD ([], [], []); (t.1, t.2.1)
theorem stpV_ex {m : Mc} (v : List UInt8) (hm : McV m) (hv : v.length ≤ 1000000) : ∃ rs, f28 m.1 m.2 v = some ((stpV m v).1, (stpV m v).2, rs) ∧ f29 m.1 m.2 v = some ((stpV m v).1, (stpV m v).2, rs) ∧ McV (stpV m v) := by
 obtain ⟨m', rs, h1, h2, hm', _⟩ := entry_both m hm v hv
 have e : stpV m v = m' := by
  unfold stpV
  rw [h2]; rfl
 rw [e]
 exact ⟨rs, h1, h2, hm'⟩
theorem stpV_ok : ∀ (l : List (List UInt8)) (m : Mc), McV m → (∀ v, v ∈ l → v.length ≤ 1000000) → McV (l.foldl stpV m)
 | [], _, h, _ => h
 | v :: l, m, h, hv => stpV_ok l (stpV m v) (stpV_ex v h (hv v (List.mem_cons_self ..))).choose_spec.2.2 (fun u hu => hv u (List.mem_cons_of_mem _ hu))
abbrev RMc := List Pr × List Ss
theorem f32_L0_eq (x : List (List UInt8)) (hl : x.length ≤ 1000000) (hx : ∀ v, v ∈ x → v.length ≤ 1000000) (K : RMc → Option RMc) : ∀ (d k n : Nat) (m : Mc), McV m → n + d = x.length → d < k → f32_L0 x K k (n, m.1, m.2) = K (((x.drop n).foldl stpV m).1, ((x.drop n).foldl stpV m).2)
 | 0, k, n, m, hm, hn, hk => by
  obtain ⟨k, rfl⟩ : ∃ z, k = z + 1 := ⟨k - 1, by omega⟩
  rw [List.drop_eq_nil_of_le (by omega)]
  conv => lhs; unfold f32_L0
  rw [ifd_neg (by omega)]
  rfl
 | d + 1, k, n, m, hm, hn, hk => by
  obtain ⟨k, rfl⟩ : ∃ z, k = z + 1 := ⟨k - 1, by omega⟩
  obtain ⟨rs, h1, _, h3⟩ := stpV_ex (x.getD n []) hm (hx _ (getD_mem x n [] (by omega)))
  have ih := f32_L0_eq x hl hx K d k (n + 1) (stpV m (x.getD n [])) h3 (by omega) (by omega)
  conv => lhs; unfold f32_L0
  rw [ifd_pos (by omega), chk_pos (by omega), h1, some_bind, chk_pos (by omega), ih, getD_drop x n [] (by omega)]
  rfl
theorem f60_L0_eq (x : List (List UInt8)) (hl : x.length ≤ 1000000) (hx : ∀ v, v ∈ x → v.length ≤ 1000000) (K : RMc → Option RMc) : ∀ (d k n : Nat) (m : Mc), McV m → n + d = x.length → d < k → f60_L0 x K k (n, m.1, m.2) = K (((x.drop n).foldl stpV m).1, ((x.drop n).foldl stpV m).2)
 | 0, k, n, m, hm, hn, hk => by
  obtain ⟨k, rfl⟩ : ∃ z, k = z + 1 := ⟨k - 1, by omega⟩
  rw [List.drop_eq_nil_of_le (by omega)]
  conv => lhs; unfold f60_L0
  rw [ifd_neg (by omega)]
  rfl
 | d + 1, k, n, m, hm, hn, hk => by
  obtain ⟨k, rfl⟩ : ∃ z, k = z + 1 := ⟨k - 1, by omega⟩
  obtain ⟨rs, _, h1, h3⟩ := stpV_ex (x.getD n []) hm (hx _ (getD_mem x n [] (by omega)))
  have ih := f60_L0_eq x hl hx K d k (n + 1) (stpV m (x.getD n [])) h3 (by omega) (by omega)
  conv => lhs; unfold f60_L0
  rw [ifd_pos (by omega), h1, some_bind, chk_pos (by omega), chk_pos (by omega), ih, getD_drop x n [] (by omega)]
  rfl
theorem f32_eq (x : List (List UInt8)) (hl : x.length ≤ 1000000) (hx : ∀ v, v ∈ x → v.length ≤ 1000000) : f32 x = some ((x.foldl stpV ([], [])).1, (x.foldl stpV ([], [])).2) := by
 have h := f32_L0_eq x hl hx (fun ((l7, l8) : RMc) => some (l7, l8)) x.length FUEL 0 ([], []) ⟨StV.nil, SesV.nil⟩ (by omega) (fuel_lt (by omega))
 unfold f32 f17
 rw [some_bind, jn_eq]
 exact h
theorem f33_eq (x : List (List UInt8)) (hl : x.length ≤ 1000000) (hx : ∀ v, v ∈ x → v.length ≤ 1000000) : f33 x = some ((x.foldl stpV ([], [])).1, (x.foldl stpV ([], [])).2) := by
 have h := f60_L0_eq x hl hx (fun ((l7, l8) : RMc) => some (l7, l8)) x.length FUEL 0 ([], []) ⟨StV.nil, SesV.nil⟩ (by omega) (fuel_lt (by omega))
 have h60 : f60 [] [] x = some ((x.foldl stpV ([], [])).1, (x.foldl stpV ([], [])).2) := by
  unfold f60
  rw [jn_eq]
  exact h
 unfold f33
 rw [h60]
 rfl
theorem f24_eq (x : List (List UInt8)) (hl : x.length ≤ 1000000) : f24 x = some x := by
 unfold f24
 rw [abc_eq (fun h => by
  have : x = [] := List.length_eq_zero_iff.1 h
  subst this
  rw [chk_pos (by simp)]
  rfl), chk_pos (by omega)]
 rfl
theorem f8_L0_eq (x : List (List UInt8)) (hl : x.length ≤ 1000) (hx : ∀ v, v ∈ x → v.length ≤ 1000000) (t : Nat) (x2 : Int) (ht : (x2 % ((x.length + 1 : Nat) : Int)).toNat = t) (K : RMc → Option Bool) : ∀ (d k n : Nat) (m : Mc), McV m → n + d = x.length - t → d < k → f8_L0 x x2 K k (n, m.1, m.2) = K ((((x.drop t).drop n).foldl stpV m).1, (((x.drop t).drop n).foldl stpV m).2)
 | 0, k, n, m, hm, hn, hk => by
  obtain ⟨k, rfl⟩ : ∃ z, k = z + 1 := ⟨k - 1, by omega⟩
  rw [show List.drop n (List.drop t x) = [] from List.drop_eq_nil_of_le (by rw [List.length_drop]; omega)]
  conv => lhs; unfold f8_L0
  rw [ht, ifd_neg (by omega)]
  rfl
 | d + 1, k, n, m, hm, hn, hk => by
  obtain ⟨k, rfl⟩ : ∃ z, k = z + 1 := ⟨k - 1, by omega⟩
  have hlt : n < (x.drop t).length := by rw [List.length_drop]; omega
  obtain ⟨rs, h1, _, h3⟩ := stpV_ex ((x.drop t).getD n []) hm (hx _ (List.mem_of_mem_drop (getD_mem (x.drop t) n [] hlt)))
  have ih := f8_L0_eq x hl hx t x2 ht K d k (n + 1) (stpV m ((x.drop t).getD n [])) h3 (by omega) (by omega)
  conv => lhs; unfold f8_L0
  rw [ht, ifd_pos (by omega), chk_pos (by omega), h1, some_bind, chk_pos (by omega), ih, getD_drop (x.drop t) n [] hlt]
  rfl
theorem f31_some (x : List (List UInt8)) (hl : x.length ≤ 9223372036854775807) : ∃ r, f31 x = some r ∧ (r = true → x.length ≤ 20 ∧ ∀ v, v ∈ x → v.length ≤ 300) := by
 unfold f31
 rw [jn_eq, any_up (fun q i => f31_L0 x (fun _ => some (decide (((x.length : Nat) : Int) ≤ 20))) q i) x ([] : List UInt8) (fun p => decide (((p.length : Nat) : Int) > 300)) (some false) (some (decide (((x.length : Nat) : Int) ≤ 20))) (fun q i hi => by
   show f31_L0 _ _ (q + 1) i = _
   conv => lhs; unfold f31_L0
   rw [ifd_pos (by omega), chk_pos (by omega), chk_pos (by omega)]) (fun q => by
   show f31_L0 _ _ (q + 1) _ = _
   conv => lhs; unfold f31_L0
   rw [ifd_neg (by omega)]) FUEL (fuel_lt (by omega))]
 split
 ·exact ⟨_, rfl, fun h => by cases h⟩
 ·rename_i h
  refine ⟨_, rfl, fun h2 => ⟨by simp only [decide_eq_true_eq] at h2; omega, fun v hv => ?_⟩⟩
  simp only [Bool.not_eq_true, List.any_eq_false, decide_eq_true_eq] at h
  have := h v hv
  omega
theorem f8_true (x : List (List UInt8)) (c : Int) (_hx : ∀ o, o ∈ x → o.length ≤ 9223372036854775807) (hn : x.length ≤ 9223372036854775807) (hc0 : 0 ≤ c) (hc1 : c ≤ 255) : f8 x c = some true := by
 obtain ⟨r, hr, hr2⟩ := f31_some x hn
 unfold f8
 rw [f9_true, some_bind, hr]
 rw [show ((!true) == false) = true from rfl, optc_t, some_bind]
 cases r
 ·rw [if_pos (by rfl)]
  rfl
 obtain ⟨hl, hs⟩ := hr2 rfl
 have hs' : ∀ v, v ∈ x → v.length ≤ 1000000 := fun v hv => by have := hs v hv; omega
 rw [if_neg (by simp)]
 rw [f24_eq x (by omega), some_bind, f32_eq x (by omega) hs', some_bind, chk_pos (by omega), chk_pos (by omega), chk_pos (by omega)]
 have hm0 : 0 ≤ c % ((x.length + 1 : Nat) : Int) := Int.emod_nonneg _ (by omega)
 have hm1 : c % ((x.length + 1 : Nat) : Int) < ((x.length + 1 : Nat) : Int) := Int.emod_lt_of_pos _ (by omega)
 generalize ht : (c % ((x.length + 1 : Nat) : Int)).toNat = t
 have htl : t ≤ x.length := by omega
 have hm := stpV_ok x ([], []) ⟨StV.nil, SesV.nil⟩ hs'
 have hmt := stpV_ok (x.take t) ([], []) ⟨StV.nil, SesV.nil⟩ (fun v hv => hs' v (List.mem_of_mem_take hv))
 have e : (x.drop t).foldl stpV ((x.take t).foldl stpV ([], [])) = x.foldl stpV ([], []) := by
  rw [← List.foldl_append, List.take_append_drop]
 rw [f24_eq _ (by rw [List.length_take]; omega), some_bind, f32_eq _ (by rw [List.length_take]; omega) (fun v hv => hs' v (List.mem_of_mem_take hv)), some_bind, chk_pos (by omega), jn_eq, chk_pos (by omega)]
 have h := fun K => f8_L0_eq x (by omega) hs' t c ht K (x.length - t) FUEL 0 ((x.take t).foldl stpV ([], [])) hmt (by omega) (fuel_lt (by omega))
 refine (h _).trans ?_
 rw [List.drop_zero, e]
 dsimp only
 rw [f33_eq x (by omega) hs', some_bind]
 dsimp only
 rw [f14_refl _ _ (by have := hm.st.len; omega) (by have := hm.se.len; omega)]
 rfl
end Go.Abs
