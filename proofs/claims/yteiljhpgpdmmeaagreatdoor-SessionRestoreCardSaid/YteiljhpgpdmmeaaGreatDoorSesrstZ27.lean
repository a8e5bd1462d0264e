/- Part 27 of the proof: Num, Dec49a, Dec49b, Dec49c, Dec49d, Dec49e. -/
import Derived.Test.YteiljhpgpdmmeaaGreatDoorSesrstZ26
import Derived.Lib.AtoiAllCases
import Derived.Lib.ItoaLen
namespace Go.Abs
open Go Go.Lib
theorem parse_app : ∀ (a b : List UInt8) (acc : Nat) (v : Nat), parseUint10 acc a = .ok v → parseUint10 acc (a ++ b) = parseUint10 v b
  | [], b, acc, v, h => by
    simp only [parseUint10, NumEnd.ok.injEq] at h
    subst h; rfl
  | c :: a, b, acc, v, h => by
    simp only [parseUint10, List.cons_append] at h ⊢
    split at h
    · split at h
      · cases h
      · split at h
        · cases h
        · rename_i h1 h2 h3
          rw [if_pos h1, if_neg h2, if_neg h3]
          exact parse_app a b _ v h
    · cases h
theorem dig_nat (d : Nat) (h : d < 10) : (UInt8.ofNat (48 + d)).toNat = 48 + d := by
  simp [UInt8.toNat_ofNat']
  omega
theorem parse_dig (n : Nat) (hn : n ≤ 9223372036854775807) : parseUint10 0 (decDigits n) = .ok n := by
  induction n using Nat.strongRecOn with
  | ind n ih =>
    by_cases h : n < 10
    · rw [decDigits, dif_pos h]
      simp only [parseUint10, dig_nat n h]
      rw [if_pos (by omega), if_neg (by omega), if_neg (by omega)]
      congr 1
      omega
    · rw [decDigits, dif_neg h]
      have := ih (n / 10) (by omega) (by omega)
      rw [parse_app _ _ _ _ this]
      simp only [parseUint10, dig_nat (n % 10) (by omega)]
      rw [if_pos (by omega), if_neg (by omega), if_neg (by omega)]
      congr 1
      omega
theorem dig_ne (n : Nat) : decDigits n ≠ [] := by
  rw [decDigits]
  split <;> simp
theorem dig_head (n : Nat) : ∃ c r, decDigits n = c :: r ∧ 48 ≤ c.toNat ∧ c.toNat ≤ 57 := by
  induction n using Nat.strongRecOn with
  | ind n ih =>
    by_cases h : n < 10
    · rw [decDigits, dif_pos h]
      exact ⟨_, _, rfl, by rw [dig_nat n h]; omega, by rw [dig_nat n h]; omega⟩
    · obtain ⟨c, r, e, h1, h2⟩ := ih (n / 10) (by omega)
      rw [decDigits, dif_neg h, e]
      exact ⟨c, _, rfl, h1, h2⟩
theorem atoi_itoa (n : Int) (h0 : 0 ≤ n) (h1 : n ≤ 9223372036854775807) : Lib.atoiAll (Lib.itoa n) = .ok n := by
  rw [Lib.itoa, if_neg (by omega)]
  obtain ⟨m, rfl⟩ : ∃ m : Nat, n = m := ⟨n.toNat, by omega⟩
  rw [Int.toNat_natCast]
  obtain ⟨c, r, e, h2, h3⟩ := dig_head m
  have hp := parse_dig m (by omega)
  rw [e] at hp ⊢
  rw [atoiAll_plain c r (by omega) (by omega)]
  unfold parseMag
  rw [if_neg (by simp), hp]
  unfold signless
  simp only
  rw [if_neg (by omega)]
theorem itoa_len7 (n : Int) (h0 : 0 ≤ n) (h1 : n ≤ 9999999) : (Lib.itoa n).length ≤ 7 := by
  rw [Lib.itoa, if_neg (by omega)]
  obtain ⟨m, rfl⟩ : ∃ m : Nat, n = m := ⟨n.toNat, by omega⟩
  rw [Int.toNat_natCast]
  have : ∀ (k m : Nat), m < 10 ^ (k + 1) → (decDigits m).length ≤ k + 1 := by
    intro k
    induction k with
    | zero => intro m h; rw [decDigits, dif_pos (by omega)]; simp
    | succ k ih =>
      intro m h
      by_cases h' : m < 10
      · rw [decDigits, dif_pos h']; simp
      · rw [decDigits, dif_neg h', List.length_append]
        have := ih (m / 10) (by rw [Nat.pow_succ] at h; omega)
        simp only [List.length_cons, List.length_nil]
        omega
  exact this 6 m (by omega)
theorem atoiO_itoa (n : Int) (h0 : 0 ≤ n) (h1 : n ≤ 9223372036854775807) : atoiO (Lib.itoa n) = some (n, false) := by
  unfold atoiO
  have := Lib.itoa_length_le n (by omega) h1
  rw [if_pos (by omega), atoi_itoa n h0 h1]
theorem atoiO_some (s : List UInt8) (h : s.length ≤ 281474976710656) : ∃ v b, atoiO s = some (v, b) ∧ -9223372036854775808 ≤ v ∧ v ≤ 9223372036854775807 := by
  unfold atoiO
  rw [if_pos h]
  cases e : Lib.atoiAll s with
  | ok v => exact ⟨v, false, rfl, atoiAll_bounds e⟩
  | range => exact ⟨_, true, rfl, atoiSat_bounds s⟩
  | _ => exact ⟨0, true, rfl, by omega, by omega⟩
end Go.Abs
namespace Go.Abs
open Go
theorem bits_u8 (x y : Int) : 0 ≤ bitsI .and .u8 x y ∧ bitsI .and .u8 x y ≤ 255 := by
  unfold bitsI
  generalize ((BitVec.ofInt IntKind.u8.bits x &&& BitVec.ofInt IntKind.u8.bits y).toNat : Int) = n
  unfold IntKind.wrap
  simp [IntKind.bits, IntKind.signed]
  omega
theorem bits_u64 (x y : Int) : 0 ≤ bitsI .or .u64 x y ∧ bitsI .or .u64 x y ≤ 18446744073709551615 := by
  unfold bitsI
  generalize ((BitVec.ofInt IntKind.u64.bits x ||| BitVec.ofInt IntKind.u64.bits y).toNat : Int) = n
  unfold IntKind.wrap
  simp [IntKind.bits, IntKind.signed]
  omega
theorem or64 (a b : Nat) (ha : a < 2 ^ 64) (hb : b < 2 ^ 64) : bitsI .or .u64 (a : Int) (b : Int) = ((a ||| b : Nat) : Int) := by
  have h : (BitVec.ofInt IntKind.u64.bits (a : Int) ||| BitVec.ofInt IntKind.u64.bits (b : Int)).toNat = a ||| b := by
    have e : IntKind.u64.bits = 64 := rfl
    rw [e, BitVec.toNat_or, BitVec.ofInt_natCast, BitVec.ofInt_natCast, BitVec.toNat_ofNat, BitVec.toNat_ofNat, Nat.mod_eq_of_lt ha, Nat.mod_eq_of_lt hb]
  unfold bitsI
  simp only [h]
  have := Nat.or_lt_two_pow ha hb
  exact wrap_in (k := .u64) (show 0 ≤ ((a ||| b : Nat) : Int) ∧ ((a ||| b : Nat) : Int) ≤ 18446744073709551615 by omega)
theorem and127 : ∀ m : Fin 256, bitsI .and .u8 ((m.val : Nat) : Int) 127 = ((m.val % 128 : Nat) : Int) := by decide +kernel
def chk8 (c : Nat) : Option Int → Bool
  | some r => decide (c < 2 ^ r.toNat) && decide (0 ≤ r) && decide (r ≤ 8)
  | none => false
theorem len8 : ∀ c : Fin 128, chk8 c.val (f167 ((c.val : Nat) : Int)) = true := by decide +kernel
theorem len8' (c : Nat) (h : c < 128) : ∃ t : Nat, f167 (c : Int) = some (t : Int) ∧ c < 2 ^ t ∧ t ≤ 8 := by
  have h1 := len8 ⟨c, h⟩
  simp only at h1
  generalize f167 ((c : Nat) : Int) = q at h1
  cases q with
  | none => cases h1
  | some r =>
    simp only [chk8, Bool.and_eq_true, decide_eq_true_eq] at h1
    obtain ⟨⟨h3, h4⟩, h5⟩ := h1
    exact ⟨r.toNat, by rw [Int.toNat_of_nonneg h4], h3, by omega⟩
theorem shl_ok (c t n : Nat) (hc : c < 2 ^ t) (h : t + 7 * n ≤ 64) : c * 2 ^ (7 * n) < 18446744073709551616 := by
  have h1 : c * 2 ^ (7 * n) < 2 ^ t * 2 ^ (7 * n) := Nat.mul_lt_mul_of_pos_right hc (Nat.pow_pos (by decide))
  rw [← Nat.pow_add] at h1
  have h2 : 2 ^ (t + 7 * n) ≤ 2 ^ 64 := Nat.pow_le_pow_right (by decide) h
  omega
/-- what the last byte of a number comes to -/
theorem get_last (x : List UInt8) (K : Unit → Option (Int × Int × Int)) (i : Int) (n k c : Nat) (hn : n < min x.length 10) (hx : x.length ≤ 1000000) (hc : (x.getD n 0).toNat = c) (h8 : c < 128) :
    ∃ t : Nat, f167 (c : Int) = some (t : Int) ∧ f146_L0 x K (k + 1) (i, n) = if 64 < t + 7 * n then some (0, 0, 7) else if c = 0 ∧ 0 < n then some (0, 0, 2) else some (bitsI .or .u64 i (((c * 2 ^ (7 * n) : Nat) : Int)), ((n + 1 : Nat) : Int), 0) := by
  obtain ⟨t, ht, h1, h2⟩ := len8' c h8
  refine ⟨t, ht, ?_⟩
  conv => lhs; unfold f146_L0
  rw [hc, ifd_pos (by omega), chk_pos (by omega), ifd_neg (by omega), ht, some_bind, chk_pos (by omega), chk_pos (by omega)]
  by_cases h64 : 64 < t + 7 * n
  · rw [ifd_pos (by omega), if_pos h64]
  · rw [ifd_neg (by omega), if_neg h64]
    by_cases hz : c = 0 ∧ 0 < n
    · rw [if_pos (by simp; omega), if_pos hz]
    · rw [if_neg (by simp; omega), if_neg hz, chk_pos (by omega), chk_pos (by omega)]
      have hs := shl_ok c t n h1 (by omega)
      have hb : IntKind.bits .u64 = 64 := rfl
      have e : ((c : Int) * 2 ^ (7 * n)) = ((c * 2 ^ (7 * n) : Nat) : Int) := by
        rw [Int.natCast_mul, Int.natCast_pow]; rfl
      rw [e, chk_pos ⟨by omega, by omega, by omega⟩, chk_pos (by omega)]
theorem get_more (x : List UInt8) (K : Unit → Option (Int × Int × Int)) (i : Int) (n k c : Nat) (hn : n < min x.length 10) (hx : x.length ≤ 1000000) (hc : (x.getD n 0).toNat = c) (h8 : 128 ≤ c) :
    f146_L0 x K (k + 1) (i, n) = f146_L0 x K k (bitsI .or .u64 i (IntKind.wrap .u64 (bitsI .and .u8 (c : Int) 127 * 2 ^ min (7 * n) (IntKind.bits .u64))), n + 1) := by
  have hb := bits_u8 (c : Int) 127
  conv => lhs; unfold f146_L0
  rw [hc, ifd_pos (by omega), chk_pos (by omega), ifd_pos (by omega), chk_pos (by omega), chk_pos (by omega), chk_pos (by omega)]
theorem get_end (x : List UInt8) (K : Unit → Option (Int × Int × Int)) (i : Int) (n k : Nat) (hn : ¬ n < min x.length 10) : f146_L0 x K (k + 1) (i, n) = K () := by
  conv => lhs; unfold f146_L0
  rw [ifd_neg (by omega)]
theorem f146_L0_some (x : List UInt8) (hx : x.length ≤ 1000000) (K : Unit → Option (Int × Int × Int)) (hK : ∃ e, K () = some (0, 0, e) ∧ e ≠ 0) : ∀ (c k n : Nat) (i : Int), n + c = min x.length 10 → c < k →
    ∃ v j e, f146_L0 x K k (i, n) = some (v, j, e) ∧ (e = 0 → 0 ≤ v ∧ v ≤ 18446744073709551615 ∧ 1 ≤ j ∧ j ≤ (x.length : Int))
  | 0, k, n, i, hn, hk => by
    obtain ⟨k, rfl⟩ : ∃ z, k = z + 1 := ⟨k - 1, by omega⟩
    obtain ⟨e, he, h0⟩ := hK
    rw [get_end x K i n k (by omega), he]
    exact ⟨0, 0, e, rfl, fun h => absurd h h0⟩
  | c + 1, k, n, i, hn, hk => by
    obtain ⟨k, rfl⟩ : ∃ z, k = z + 1 := ⟨k - 1, by omega⟩
    by_cases h8 : (x.getD n 0).toNat < 128
    · obtain ⟨t, _, h⟩ := get_last x K i n k _ (by omega) hx rfl h8
      rw [h]
      split
      · exact ⟨_, _, _, rfl, fun h => by cases h⟩
      · split
        · exact ⟨_, _, _, rfl, fun h => by cases h⟩
        · have := bits_u64 i (((x.getD n 0).toNat * 2 ^ (7 * n) : Nat) : Int)
          exact ⟨_, _, _, rfl, fun _ => ⟨this.1, this.2, by omega, by omega⟩⟩
    · rw [get_more x K i n k _ (by omega) hx rfl (by omega)]
      exact f146_L0_some x hx K hK c k (n + 1) _ (by omega) (by omega)
theorem f146_some (x : List UInt8) (hx : x.length ≤ 1000000) : ∃ v j e, f146 x = some (v, j, e) ∧ (e = 0 → 0 ≤ v ∧ v ≤ 18446744073709551615 ∧ 1 ≤ j ∧ j ≤ (x.length : Int)) := by
  unfold f146
  rw [jn_eq]
  refine f146_L0_some x hx _ ?_ (min x.length 10) FUEL 0 0 (by omega) (fuel_lt (by omega))
  by_cases h : x.length < 10
  · exact ⟨9, by rw [ifd_pos (by omega)], by decide⟩
  · exact ⟨7, by rw [ifd_neg (by omega)], by decide⟩
theorem f146_vint (n : Nat) (r : List UInt8) (hn : n < 16384) (hx : (vint n ++ r).length ≤ 1000000) : f146 (vint n ++ r) = some ((n : Int), ((vint n).length : Int), 0) := by
  obtain ⟨k, hk⟩ : ∃ k, FUEL = k + 2 := ⟨FUEL - 2, by unfold FUEL; omega⟩
  unfold f146
  rw [jn_eq, hk]
  by_cases h : n < 128
  · rw [vint_lt h] at hx ⊢
    have e : ([UInt8.ofNat n] ++ r).getD 0 0 = UInt8.ofNat n := rfl
    have e2 : (([UInt8.ofNat n] ++ r).getD 0 0).toNat = n := by rw [e]; simp [UInt8.toNat_ofNat']; omega
    obtain ⟨t, ht, h1⟩ := get_last ([UInt8.ofNat n] ++ r) (fun (_ : Unit) => if (decide (((([UInt8.ofNat n] ++ r).length : Nat) : Int) < (10 : Int))) then some ((0 : Int), (0 : Int), (9 : Int)) else some ((0 : Int), (0 : Int), (7 : Int))) 0 0 (k + 1) n (by simp; omega) hx e2 h
    obtain ⟨t', ht', _, h8⟩ := len8' n h
    rw [ht] at ht'
    cases ht'
    rw [h1, if_neg (by omega), if_neg (by omega)]
    have := or64 0 n (by omega) (by omega)
    rw [Nat.zero_or] at this
    simpa using this
  · rw [vint_ge h, vint_lt (show n / 128 < 128 by omega)] at hx ⊢
    generalize hy : UInt8.ofNat (n % 128 + 128) :: [UInt8.ofNat (n / 128)] ++ r = y at hx ⊢
    have e0 : (y.getD 0 0).toNat = n % 128 + 128 := by rw [← hy]; simp [UInt8.toNat_ofNat']; omega
    have e1 : (y.getD 1 0).toNat = n / 128 := by rw [← hy]; simp [UInt8.toNat_ofNat']; omega
    have hl : 2 ≤ y.length := by rw [← hy]; simp
    rw [get_more y _ 0 0 (k + 1) _ (by omega) hx e0 (by omega)]
    have ea := and127 ⟨n % 128 + 128, by omega⟩
    simp only at ea
    rw [ea]
    have em : (n % 128 + 128) % 128 = n % 128 := by omega
    have ew : IntKind.wrap .u64 (((n % 128 + 128) % 128 : Nat) * 2 ^ min (7 * 0) (IntKind.bits .u64)) = ((n % 128 : Nat) : Int) := by
      rw [em]
      have : ((2 : Int) ^ min (7 * 0) (IntKind.bits .u64)) = 1 := rfl
      rw [this, Int.mul_one]
      exact wrap_in (k := .u64) (show 0 ≤ ((n % 128 : Nat) : Int) ∧ ((n % 128 : Nat) : Int) ≤ 18446744073709551615 by omega)
    rw [ew]
    have eo := or64 0 (n % 128) (by omega) (by omega)
    rw [Nat.zero_or] at eo
    have eo' : bitsI .or .u64 0 ((n % 128 : Nat) : Int) = ((n % 128 : Nat) : Int) := eo
    rw [eo']
    obtain ⟨t', ht', _, h8⟩ := len8' (n / 128) (by omega)
    obtain ⟨t, ht, h1⟩ := get_last y (fun (_ : Unit) => if (decide (((y.length : Nat) : Int) < (10 : Int))) then some ((0 : Int), (0 : Int), (9 : Int)) else some ((0 : Int), (0 : Int), (7 : Int))) ((n % 128 : Nat) : Int) 1 k (n / 128) (by omega) hx e1 (by omega)
    rw [ht] at ht'
    cases ht'
    rw [h1, if_neg (by omega), if_neg (by omega)]
    have e3 := or64 (n % 128) (n / 128 * 2 ^ (7 * 1)) (by omega) (by omega)
    have e4 : (n % 128 ||| n / 128 * 2 ^ (7 * 1)) = n := by
      have := Nat.two_pow_add_eq_or_of_lt (i := 7) (b := n % 128) (by omega) (n / 128)
      rw [Nat.or_comm, show n / 128 * 2 ^ (7 * 1) = 2 ^ 7 * (n / 128) by omega, ← this]
      omega
    rw [e3, e4]
    rfl
/-- a string -/
theorem f120_some (x : List UInt8) (hx : x.length ≤ 1000000) : ∃ s j e, f120 x = some (s, j, e) ∧ (e = 0 → 1 ≤ j ∧ j ≤ (x.length : Int) ∧ s.length ≤ x.length) := by
  obtain ⟨v, j, e, h, hb⟩ := f146_some x hx
  unfold f120
  rw [h, some_bind]
  by_cases he : e = 0
  · subst he
    obtain ⟨h1, h2, h3, h4⟩ := hb rfl
    rw [if_neg (by simp)]
    dsimp only
    rw [chk_pos (by omega), chk_pos (by omega)]
    by_cases hv : v > (x.length : Int) - j
    · rw [ifd_pos hv]
      exact ⟨_, _, _, rfl, fun h => by cases h⟩
    · rw [ifd_neg hv, chk_pos (by omega), chk_pos (by omega), chk_pos (by omega)]
      refine ⟨_, _, _, rfl, fun _ => ⟨by omega, by omega, ?_⟩⟩
      simp only [List.length_drop, List.length_take]
      omega
  · rw [if_pos (by simpa using he)]
    exact ⟨_, _, _, rfl, fun h => absurd h he⟩
def item (s : List UInt8) : List UInt8 := vint s.length ++ s
theorem f120_item (s r : List UInt8) (hs : s.length < 16384) (hx : (item s ++ r).length ≤ 1000000) : f120 (item s ++ r) = some (s, ((item s).length : Int), 0) := by
  unfold item at hx ⊢
  rw [List.append_assoc] at hx ⊢
  unfold f120
  rw [f146_vint s.length (s ++ r) hs hx, some_bind]
  have hl : (vint s.length ++ (s ++ r)).length = (vint s.length).length + (s.length + r.length) := by simp
  have hl2 : (vint s.length ++ s).length = (vint s.length).length + s.length := by simp
  rw [if_neg (by simp)]
  dsimp only
  rw [chk_pos (by omega), chk_pos (by omega), ifd_neg (by omega), chk_pos (by omega), chk_pos (by omega), chk_pos (by omega)]
  have e : ((vint s.length).length : Int) + (s.length : Int) = (((vint s.length).length + s.length : Nat) : Int) := by omega
  rw [e, Int.toNat_natCast, Int.toNat_natCast, ← List.append_assoc, ← hl2, List.take_left, List.drop_left]
def items (L : List (List UInt8)) : List UInt8 := (L.map item).flatten
theorem plist_items (L : List (List UInt8)) : plist L = vint L.length ++ items L := rfl
theorem items_cons (s : List UInt8) (L : List (List UInt8)) : items (s :: L) = item s ++ items L := rfl
/-- the loop: it ends -/
theorem f119_L0_some (x : List UInt8) (hx : x.length ≤ 1000000) (r2 : Int × Int × Int) (K : Int × List (List UInt8) → Option (Int × Int × List (List UInt8))) (hK : ∀ i l, ∃ j e l', K (i, l) = some (j, e, l') ∧ l' = l) :
    ∀ (c k i n : Nat) (l : List (List UInt8)), i + c = x.length → c < k → n ≤ i → l.length = n → (∀ s, s ∈ l → s.length ≤ x.length) → ∃ j e l', f119_L0 x r2 K k ((i : Int), n, l) = some (j, e, l') ∧ (∀ s, s ∈ l' → s.length ≤ x.length) ∧ l'.length ≤ x.length := by
  intro c
  induction c using Nat.strongRecOn with
  | ind c ih =>
    intro k i n l hi hk hn hl hs
    obtain ⟨k, rfl⟩ : ∃ z, k = z + 1 := ⟨k - 1, by omega⟩
    by_cases hr : (n : Int) < r2.1
    · obtain ⟨s, j, e, h, hb⟩ := f120_some (x.drop i) (by rw [List.length_drop]; omega)
      rw [List.length_drop] at hb
      have hu : f119_L0 x r2 K (k + 1) ((i : Int), n, l) = if (e != 0) = true then some (0, e, []) else chk ((l.length + 1) * 16 ≤ 140737488355328) (chk (-9223372036854775808 ≤ (i : Int) + j ∧ (i : Int) + j ≤ 9223372036854775807) (chk ((n : Int) + 1 ≤ 18446744073709551615) (f119_L0 x r2 K k ((i : Int) + j, n + 1, l ++ [s])))) := by
        conv => lhs; unfold f119_L0
        rw [ifd_pos hr, Int.toNat_natCast, h, some_bind, chk_pos (by omega)]
      rw [hu]
      by_cases he : e = 0
      · subst he
        obtain ⟨h1, h2, h3⟩ := hb rfl
        rw [if_neg (by simp), chk_pos (by omega), chk_pos (by omega), chk_pos (by omega)]
        obtain ⟨m, rfl⟩ : ∃ m : Nat, j = m := ⟨j.toNat, by omega⟩
        have := ih (c - m) (by omega) k (i + m) (n + 1) (l ++ [s]) (by omega) (by omega) (by omega) (by simp [hl]) (fun t ht => by
          rcases List.mem_append.1 ht with ht | ht
          · exact hs t ht
          · simp only [List.mem_singleton] at ht
            subst ht; omega)
        simpa using this
      · rw [if_pos (by simpa using he)]
        exact ⟨_, _, _, rfl, by simp, by simp⟩
    · obtain ⟨j, e, l', h, rfl⟩ := hK i l
      refine ⟨j, e, l', ?_, hs, by omega⟩
      conv => lhs; unfold f119_L0
      rw [ifd_neg hr]
      exact h
theorem f84_some (x : List UInt8) (hx : x.length ≤ 1000000) : ∃ j e l, f84 x = some (j, e, l) ∧ (∀ s, s ∈ l → s.length ≤ x.length) ∧ l.length ≤ x.length := by
  obtain ⟨v, j, e, h, hb⟩ := f146_some x hx
  have h119 : ∃ j e l, f119 x = some (j, e, l) ∧ (∀ s, s ∈ l → s.length ≤ x.length) ∧ l.length ≤ x.length := by
    unfold f119
    rw [h, some_bind]
    by_cases he : e = 0
    · subst he
      obtain ⟨h1, h2, h3, h4⟩ := hb rfl
      rw [if_neg (by simp), jn_eq]
      obtain ⟨m, rfl⟩ : ∃ m : Nat, j = m := ⟨j.toNat, by omega⟩
      exact f119_L0_some x hx _ _ (fun i l => ⟨i, 0, l, rfl, rfl⟩) (x.length - m) FUEL m 0 [] (by omega) (fuel_lt (by omega)) (by omega) rfl (by simp)
    · rw [if_pos (by simpa using he)]
      exact ⟨_, _, _, rfl, by simp, by simp⟩
  obtain ⟨j, e, l, h, hs⟩ := h119
  unfold f84
  rw [h]
  exact ⟨j, e, l, rfl, hs⟩
theorem vint_pos (n : Nat) : 1 ≤ (vint n).length := by
  rw [vint]
  split <;> simp
theorem item_pos (s : List UInt8) : 1 ≤ (item s).length := by
  unfold item
  have := vint_pos s.length
  rw [List.length_append]
  omega
theorem f119_L0_items (x : List UInt8) (hx : x.length ≤ 1000000) (r2 : Int × Int × Int) (K : Int × List (List UInt8) → Option (Int × Int × List (List UInt8))) (L : List (List UInt8)) (hr : r2.1 = (L.length : Int)) :
    ∀ (M : List (List UInt8)) (A : List UInt8) (D : List (List UInt8)) (k : Nat), (∀ s, s ∈ M → s.length < 16384) → x = A ++ items M → L = D ++ M → D.length ≤ A.length → M.length < k → f119_L0 x r2 K k ((A.length : Int), D.length, D) = K ((x.length : Int), L)
  | [], A, D, k, _, hxe, hL, _, hk => by
    obtain ⟨k, rfl⟩ : ∃ z, k = z + 1 := ⟨k - 1, by omega⟩
    have e1 : x.length = A.length := by rw [hxe]; simp [items]
    have e2 : L = D := by rw [hL]; simp
    conv => lhs; unfold f119_L0
    rw [ifd_neg (by rw [hr, e2]; omega), e1, e2]
  | s :: M, A, D, k, hM, hxe, hL, hD, hk => by
    obtain ⟨k, rfl⟩ : ∃ z, k = z + 1 := ⟨k - 1, by omega⟩
    simp only [List.length_cons] at hk
    have hl : L.length = D.length + (M.length + 1) := by rw [hL]; simp
    have e1 : x.drop A.length = item s ++ items M := by rw [hxe, List.drop_left, items_cons]
    have hxl : x.length = A.length + ((item s).length + (items M).length) := by rw [hxe, items_cons]; simp
    have h := f120_item s (items M) (hM s (List.mem_cons_self ..)) (by rw [← e1, List.length_drop]; omega)
    have hp := item_pos s
    have ih := f119_L0_items x hx r2 K L hr M (A ++ item s) (D ++ [s]) k (fun t ht => hM t (List.mem_cons_of_mem _ ht)) (by rw [hxe, items_cons]; simp) (by rw [hL]; simp) (by
      simp only [List.length_append, List.length_singleton]
      omega) (by omega)
    conv => lhs; unfold f119_L0
    rw [ifd_pos (by rw [hr]; omega), Int.toNat_natCast, e1, h, some_bind, chk_pos (by omega), if_neg (by simp)]
    dsimp only
    rw [chk_pos (by omega), chk_pos (by omega), chk_pos (by omega), ← ih]
    simp
theorem f84_plist (L : List (List UInt8)) (hL : L.length < 16384) (hs : ∀ s, s ∈ L → s.length < 16384) (hx : (plist L).length ≤ 1000000) : f84 (plist L) = some (((plist L).length : Int), 0, L) := by
  have h119 : f119 (plist L) = some (((plist L).length : Int), 0, L) := by
    unfold f119
    rw [plist_items] at hx ⊢
    rw [f146_vint L.length (items L) hL hx, some_bind, if_neg (by simp), jn_eq]
    exact f119_L0_items (vint L.length ++ items L) hx ((L.length : Int), ((vint L.length).length : Int), 0) _ L rfl L (vint L.length) [] FUEL hs rfl rfl (Nat.zero_le _) (fuel_lt (by omega))
  unfold f84
  rw [h119]
  rfl
end Go.Abs
namespace Go.Abs
open Go
def flt (l : List Ss) : List (List UInt8) := l.flatMap fun q => [Lib.itoa q.1, Lib.itoa q.2.1, q.2.2]
theorem flt_len (l : List Ss) : (flt l).length = 3 * l.length := by
  unfold flt
  induction l with
  | nil => rfl
  | cons a l ih => simp [ih]; omega
theorem flt_cons (q : Ss) (l : List Ss) : flt (q :: l) = Lib.itoa q.1 :: Lib.itoa q.2.1 :: q.2.2 :: flt l := rfl
theorem items_len (L : List (List UInt8)) (b : Nat) (hb : b < 16384) (h : ∀ s, s ∈ L → s.length ≤ b) : (items L).length ≤ L.length * (b + 2) := by
  induction L with
  | nil => simp [items]
  | cons s L ih =>
    have h1 := ih fun t ht => h t (List.mem_cons_of_mem _ ht)
    have h2 := h s (List.mem_cons_self ..)
    have h3 := vint_len 1 s.length (by omega)
    rw [items_cons, List.length_append, item, List.length_append, List.length_cons, Nat.add_mul]
    omega
theorem plist_len (L : List (List UInt8)) (b : Nat) (hb : b < 16384) (hl : L.length < 16384) (h : ∀ s, s ∈ L → s.length ≤ b) : (plist L).length ≤ 2 + L.length * (b + 2) := by
  have h1 := items_len L b hb h
  have h2 := vint_len 1 L.length (by omega)
  rw [plist_items, List.length_append]
  omega
theorem f56_eq (n : Int) (h : -9223372036854775808 ≤ n ∧ n ≤ 9223372036854775807) : f56 n = some (Lib.itoa n) := by
  unfold f56 itoaO
  rw [if_pos h]
theorem f58_eq (L : List (List UInt8)) (h : (plist L).length ≤ 1000000) (hl : L.length ≤ 1000000) : f58 L = some (plist L) := by
  unfold f58 plistO
  rw [if_pos (by omega)]
end Go.Abs
namespace Go.Abs
open Go
end Go.Abs
namespace Go.Abs
open Go
end Go.Abs
namespace Go.Abs
open Go
end Go.Abs
