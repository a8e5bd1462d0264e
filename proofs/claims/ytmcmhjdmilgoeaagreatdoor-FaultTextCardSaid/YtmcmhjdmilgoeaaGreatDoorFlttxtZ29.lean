/- Part 29 of the proof: Txt19p. -/
import Derived.Test.YtmcmhjdmilgoeaaGreatDoorFlttxtZ28
namespace Go.Abs
open Go Go.Lib
/-! ### members -/
theorem low_bit : ∀ (c w : Nat), w ≠ 0 → w < 2 ^ c → ∃ i q, i < c ∧ w = 2 ^ (i + 1) * q + 2 ^ i
  | 0, w, h0, h => absurd h0 (by simp at h; omega)
  | c + 1, w, h0, h => by
    rw [Nat.pow_succ] at h
    rcases Nat.mod_two_eq_zero_or_one w with hw | hw
    · obtain ⟨i, q, hi, e⟩ := low_bit c (w / 2) (by omega) (by omega)
      refine ⟨i + 1, q, by omega, ?_⟩
      have : w = 2 * (w / 2) := by omega
      rw [this, e, Nat.mul_add, ← Nat.mul_assoc, Nat.pow_succ 2 (i + 1), Nat.pow_succ 2 i]
      rw [Nat.mul_comm 2 (2 ^ i * 2), Nat.mul_comm 2 (2 ^ i)]
    · refine ⟨0, w / 2, by omega, ?_⟩
      omega
theorem low_and (c i q : Nat) (hi : i < c) (h : 2 ^ (i + 1) * q + 2 ^ i < 2 ^ c) : (2 ^ (i + 1) * q + 2 ^ i) &&& (2 ^ c - (2 ^ (i + 1) * q + 2 ^ i)) = 2 ^ i := by
  obtain ⟨d, rfl⟩ : ∃ d, c = (i + 1) + d := ⟨c - (i + 1), by omega⟩
  have hp : 2 ^ (i + 1) = 2 ^ i + 2 ^ i := by rw [Nat.pow_succ]; omega
  have hp0 : 0 < 2 ^ i := Nat.pow_pos (by decide)
  rw [Nat.pow_add 2 (i + 1) d] at h
  have hq : q < 2 ^ d := by
    refine Classical.byContradiction fun hge => ?_
    have := Nat.mul_le_mul_left (2 ^ (i + 1)) (Nat.le_of_not_lt hge)
    omega
  have e : 2 ^ (i + 1 + d) - (2 ^ (i + 1) * q + 2 ^ i) = 2 ^ (i + 1) * (2 ^ d - (q + 1)) + 2 ^ i := by
    rw [Nat.pow_add 2 (i + 1) d, Nat.mul_sub, Nat.mul_add, Nat.mul_one]
    have := Nat.mul_le_mul_left (2 ^ (i + 1)) (Nat.succ_le_of_lt hq)
    rw [Nat.succ_eq_add_one, Nat.mul_add, Nat.mul_one] at this
    omega
  rw [e]
  apply Nat.eq_of_testBit_eq
  intro j
  rw [Nat.testBit_and, Nat.testBit_two_pow_mul_add _ (by omega), Nat.testBit_two_pow_mul_add _ (by omega), Nat.testBit_two_pow_sub_succ hq, Nat.testBit_two_pow]
  by_cases hj : j < i + 1
  · rw [if_pos hj, if_pos hj, Bool.and_self]
  · rw [if_neg hj, if_neg hj]
    have : ¬ i = j := by omega
    simp [this]
    intro a _
    exact a
theorem low_drop (i q : Nat) : (2 ^ (i + 1) * q + 2 ^ i) &&& (2 ^ (i + 1) * q + 2 ^ i - 1) = 2 ^ (i + 1) * q := by
  have hp : 2 ^ (i + 1) = 2 ^ i + 2 ^ i := by rw [Nat.pow_succ]; omega
  have hp0 : 0 < 2 ^ i := Nat.pow_pos (by decide)
  have e : 2 ^ (i + 1) * q + 2 ^ i - 1 = 2 ^ (i + 1) * q + (2 ^ i - 1) := by omega
  have e2 : 2 ^ (i + 1) * q = 2 ^ (i + 1) * q + 0 := rfl
  rw [e]
  conv => rhs; rw [e2]
  apply Nat.eq_of_testBit_eq
  intro j
  rw [Nat.testBit_and, Nat.testBit_two_pow_mul_add _ (by omega), Nat.testBit_two_pow_mul_add _ (by omega), Nat.testBit_two_pow_mul_add _ (by omega), Nat.testBit_two_pow, Nat.testBit_two_pow_sub_one]
  by_cases hj : j < i + 1
  · rw [if_pos hj, if_pos hj, if_pos hj, Nat.zero_testBit]
    by_cases e3 : i = j
    · subst e3; simp
    · simp [e3]
  · rw [if_neg hj, if_neg hj, if_neg hj, Bool.and_self]
theorem low_mem (i q : Nat) (hi : i < 16) : memP (2 ^ (i + 1) * q + 2 ^ i) 16 = i :: memP (2 ^ (i + 1) * q) 16 := by
  have hp0 : 0 < 2 ^ i := Nat.pow_pos (by decide)
  have hb : ∀ j, (2 ^ (i + 1) * q + 2 ^ i) / 2 ^ j % 2 = if j < i then 0 else if j = i then 1 else (2 ^ (i + 1) * q) / 2 ^ j % 2 := by
    intro j
    by_cases h1 : j < i
    · rw [if_pos h1]
      obtain ⟨d, rfl⟩ : ∃ d, i = j + 1 + d := ⟨i - j - 1, by omega⟩
      have : 2 ^ (j + 1 + d + 1) * q + 2 ^ (j + 1 + d) = 2 ^ j * (2 * (2 ^ d * 2 * q + 2 ^ d)) := by
        rw [Nat.pow_succ 2 (j + 1 + d), Nat.pow_add 2 (j + 1) d, Nat.pow_succ 2 j, Nat.mul_add, Nat.mul_add]
        simp only [Nat.mul_assoc]
      rw [this, Nat.mul_div_cancel_left _ (Nat.pow_pos (by decide)), Nat.mul_mod_right]
    · rw [if_neg h1]
      by_cases h2 : j = i
      · subst h2
        rw [if_pos rfl, Nat.pow_succ, Nat.mul_assoc, Nat.mul_add_div (Nat.pow_pos (by decide)), Nat.div_self (Nat.pow_pos (by decide))]
        omega
      · rw [if_neg h2]
        obtain ⟨d, rfl⟩ : ∃ d, j = (i + 1) + d := ⟨j - (i + 1), by omega⟩
        have hlt : 2 ^ i < 2 ^ (i + 1) := by rw [Nat.pow_succ]; omega
        rw [Nat.pow_add 2 (i + 1) d, ← Nat.div_div_eq_div_mul, ← Nat.div_div_eq_div_mul, Nat.mul_add_div (Nat.pow_pos (by decide)), Nat.mul_div_cancel_left _ (Nat.pow_pos (by decide)), Nat.div_eq_of_lt hlt, Nat.add_zero]
  have hz : ∀ j, j ≤ i → (2 ^ (i + 1) * q) / 2 ^ j % 2 = 0 := by
    intro j h1
    obtain ⟨d, rfl⟩ : ∃ d, i = j + d := ⟨i - j, by omega⟩
    have : 2 ^ (j + d + 1) * q = 2 ^ j * (2 * (2 ^ d * q)) := by
      rw [Nat.pow_succ 2 (j + d), Nat.pow_add 2 j d, Nat.mul_comm (2 ^ j * 2 ^ d) 2]
      simp only [Nat.mul_assoc, Nat.mul_left_comm]
    rw [this, Nat.mul_div_cancel_left _ (Nat.pow_pos (by decide)), Nat.mul_mod_right]
  have hs : List.range 16 = List.range i ++ (i :: (List.range (15 - i)).map (i + 1 + ·)) := by
    have : 16 = i + (1 + (15 - i)) := by omega
    conv => lhs; rw [this]
    rw [List.range_add, List.range_add, List.map_append, List.map_map]
    simp [Function.comp_def, Nat.add_assoc]
  unfold memP
  rw [hs, List.filter_append, List.filter_append, List.filter_cons, List.filter_cons]
  have f1 : ∀ (v : Nat), (∀ j, j < i → v / 2 ^ j % 2 = 0) → (List.range i).filter (fun j => decide (v / 2 ^ j % 2 = 1)) = [] := by
    intro v hv
    rw [List.filter_eq_nil_iff]
    intro j hj
    have := hv j (List.mem_range.1 hj)
    simp [this]
  have hbi : (2 ^ (i + 1) * q + 2 ^ i) / 2 ^ i % 2 = 1 := by rw [hb i, if_neg (by omega), if_pos rfl]
  rw [f1 _ (fun j hj => by rw [hb j, if_pos hj]), f1 _ (fun j hj => hz j (by omega)), if_pos (by rw [hbi]; rfl), if_neg (by rw [hz i (Nat.le_refl _)]; decide), List.nil_append, List.nil_append]
  congr 1
  refine List.filter_congr fun j hj => ?_
  obtain ⟨d, _, rfl⟩ := List.mem_map.1 hj
  rw [hb, if_neg (by omega), if_neg (by omega)]
theorem tz_all : ((List.range 16).all fun i => decide (27 ≤ IntKind.bits .u32 ∧ (0 ≤ (IntKind.wrap .u32 (((2 ^ i : Nat) : Int) * 125613361)) / 2 ^ 27 ∧ (IntKind.wrap .u32 (((2 ^ i : Nat) : Int) * 125613361)) / 2 ^ 27 < 32) ∧ T0.getD (0 + (((IntKind.wrap .u32 (((2 ^ i : Nat) : Int) * 125613361)) / 2 ^ 27)).toNat * 1 + 0) 0 = i)) = true := by kernel_rfl
theorem f128_eq {x : BitVec 16} {i q : Nat} (hi : i < 16) (h : x.toNat = 2 ^ (i + 1) * q + 2 ^ i) : f128 x = some (i : Int) := by
  have hp0 : 0 < 2 ^ i := Nat.pow_pos (by decide)
  have hne : ¬ (x == BitVec.ofInt 16 0) = true := by
    intro e
    rw [beq_iff_eq] at e
    rw [e] at h
    have : (BitVec.ofInt 16 0).toNat = 0 := rfl
    omega
  have ea : (x &&& (-x)).toNat = 2 ^ i := by
    have hx := x.isLt
    rw [BitVec.toNat_and, BitVec.toNat_neg, h]
    rw [h] at hx
    rw [Nat.mod_eq_of_lt (by omega)]
    exact low_and 16 i q hi hx
  have ht := List.all_eq_true.1 tz_all i (List.mem_range.2 hi)
  rw [decide_eq_true_eq] at ht
  unfold f128
  rw [if_neg hne, ea, chk_pos ht.1, chk_pos ht.2.1, ht.2.2, chk_pos (by omega)]
theorem f100_L0_eq (K : List Int → Option (List Int)) : ∀ (n : Nat) (x : BitVec 16) (k : Nat) (l : List Int), x.toNat ≤ n → n + 1 < k → l.length + n ≤ 1000000 →
    f100_L0 K k (x, l) = K (l ++ (memP x.toNat 16).map fun i : Nat => (i : Int)) := by
  have hz : memP (0#16).toNat 16 = [] := by decide
  intro n
  induction n with
  | zero =>
    intro x k l hx hk hl
    obtain ⟨k, rfl⟩ : ∃ q, k = q + 1 := ⟨k - 1, by omega⟩
    have e : x = 0#16 := BitVec.eq_of_toNat_eq (by simp; omega)
    subst e
    rw [f100_L0.eq_2, if_neg (by decide), hz]; simp
  | succ n ih =>
    intro x k l hx hk hl
    obtain ⟨k, rfl⟩ : ∃ q, k = q + 1 := ⟨k - 1, by omega⟩
    by_cases h0 : x.toNat = 0
    · have e : x = 0#16 := BitVec.eq_of_toNat_eq (by simp; omega)
      subst e
      rw [f100_L0.eq_2, if_neg (by decide), hz]; simp
    · obtain ⟨i, q, hi, e⟩ := low_bit 16 x.toNat h0 x.isLt
      have hp0 : 0 < 2 ^ i := Nat.pow_pos (by decide)
      have hne : (!(x == (BitVec.ofInt 16 0))) = true := by
        have : x ≠ 0#16 := fun e => h0 (by rw [e]; rfl)
        simpa using this
      have ed : (x &&& (x - BitVec.ofInt 16 1)).toNat = 2 ^ (i + 1) * q := by
        have hxl := x.isLt
        have e1 : (x - BitVec.ofInt 16 1).toNat = x.toNat - 1 := by
          rw [BitVec.toNat_sub]
          have : (BitVec.ofInt 16 1).toNat = 1 := rfl
          rw [this]; omega
        rw [BitVec.toNat_and, e1, e]
        exact low_drop i q
      rw [f100_L0.eq_2, if_pos hne, f128_eq hi e, some_bind, chk_pos (by omega), ih _ k _ (by rw [ed]; omega) (by omega) (by simp; omega), ed, e, low_mem i q hi]
      simp
theorem f100_eq (x : BitVec 16) : f100 x = some ((memP x.toNat 16).map fun i : Nat => (i : Int)) := by
  have := x.isLt
  unfold f100
  rw [jn_eq, f100_L0_eq _ 65536 x FUEL [] (by omega) (by unfold FUEL; omega) (by simp)]
  simp
/-! ### the text of a set, by the program -/
theorem itw_len {i : Nat} (h : i < 16) : (itw i).length ≤ 2 := by
  rw [itw_eq i h]; split <;> simp
theorem tail_len : ∀ (L : List Nat), (∀ i, i ∈ L → i < 16) → (joinTail [32] (L.map itw)).length ≤ 3 * L.length
  | [], _ => by simp [joinTail]
  | i :: L, h => by
    have h1 := itw_len (h i (List.mem_cons_self ..))
    have h2 := tail_len L fun j hj => h j (List.mem_cons_of_mem _ hj)
    rw [List.map_cons, joinTail_cons, List.length_append, List.length_append, List.length_cons]
    simp only [List.length_cons, List.length_nil]
    omega
theorem join_len (L : List Nat) (h : ∀ i, i ∈ L → i < 16) : (join (L.map itw) [32]).length ≤ 3 * L.length := by
  cases L with
  | nil => simp [join_nil]
  | cons i L =>
    have h1 := itw_len (h i (List.mem_cons_self ..))
    have h2 := tail_len L fun j hj => h j (List.mem_cons_of_mem _ hj)
    rw [List.map_cons, join_cons, List.length_append, List.length_cons]
    omega
theorem memP_len16 (x : Nat) : (memP x 16).length ≤ 16 := by
  have := List.length_filter_le (fun i => decide (x / 2 ^ i % 2 = 1)) (List.range 16)
  rw [List.length_range] at this
  exact this
theorem textP_len (x : BitVec 16) : (textP x).length ≤ 50 := by
  have h1 := join_len (memP x.toNat 16) fun i hi => memP_small hi
  have h2 := memP_len16 x.toNat
  unfold textP txtW
  simp
  omega
theorem map_fold8 {α β : Type} (g : α → β) : ∀ (l : List α) (out : List β), l.foldl (fun out a => out ++ [g a]) out = out ++ l.map g
  | [], out => by simp
  | a :: l, out => by rw [List.foldl_cons, map_fold8 g l]; simp
theorem mp_get8 (L : List Nat) (n : Nat) (h : n < L.length) : (L.map fun i : Nat => (i : Int)).getD n 0 = ((L.getD n 0 : Nat) : Int) := by
  simp [List.getD_eq_getElem?_getD, h]
theorem getD_mem8 {α : Type} (L : List α) (n : Nat) (d : α) (h : n < L.length) : L.getD n d ∈ L := by
  rw [List.getD_eq_getElem?_getD, List.getElem?_eq_getElem h]
  exact List.getElem_mem _
theorem f83_eq (x : BitVec 16) : f83 x = some (textP x) := by
  have h1 := join_len (memP x.toNat 16) fun i hi => memP_small hi
  have h2 := memP_len16 x.toNat
  have h3 : ∀ i, i ∈ memP x.toNat 16 → i < 16 := fun i hi => memP_small hi
  unfold f83 textP txtW
  rw [jn_eq, f100_eq, some_bind]
  generalize memP x.toNat 16 = L at *
  have hl : (L.map fun i : Nat => (i : Int)).length = L.length := List.length_map _
  have hf := fold_up (f83_L0 (fun (l6 : List (List UInt8)) => (f62 l6 ([32] : List UInt8)).bind fun (r7 : List UInt8) =>
      chk (([123] : List UInt8).length + r7.length ≤ 9223372036854775807) <| chk ((([123] : List UInt8) ++ r7).length + ([125] : List UInt8).length ≤ 9223372036854775807) <| some ((([123] : List UInt8) ++ r7) ++ ([125] : List UInt8))) (L.map fun i : Nat => (i : Int))) (L.map fun i : Nat => (i : Int)) 0 (fun n l => l.length ≤ n) (fun out v => out ++ [Lib.itoa v]) _ (fun k n l hn hi => by
    rw [hl] at hn
    have := h3 _ (getD_mem8 L n 0 hn)
    rw [f83_L0.eq_2, ifd_pos (by rw [hl]; omega), chk_pos (by rw [hl]; omega), chk_pos (by rw [hl]; omega), mp_get8 L n hn]
    unfold f102 itoaO
    rw [if_pos (by omega), some_bind, chk_pos (by omega), chk_pos (by omega)]) (fun n l hn hi => by simp; omega) (fun k l hi => by
    rw [f83_L0.eq_2, ifd_neg (by omega)]) L.length FUEL 0 [] (by rw [hl]; omega) (fuel_lt (by omega)) (by simp)
  rw [List.drop_zero, map_fold8, List.nil_append, List.map_map] at hf
  refine Eq.trans hf ?_
  have e : List.map (Lib.itoa ∘ fun i : Nat => (i : Int)) L = L.map itw := rfl
  rw [e]
  unfold f62 joinP
  rw [if_pos (by rw [List.length_map]; omega), some_bind, chk_pos (by simp; omega), chk_pos (by simp; omega)]
  simp
/-! ### by the reference -/
theorem joinTail_app (sep : List UInt8) (a b : List (List UInt8)) : joinTail sep (a ++ b) = joinTail sep a ++ joinTail sep b := by
  simp [joinTail]
theorem join_snoc (ws : List (List UInt8)) (w sep : List UInt8) : join (ws ++ [w]) sep = if ws = [] then w else join ws sep ++ sep ++ w := by
  cases ws with
  | nil => rw [if_pos rfl]; exact join_one w sep
  | cons a r =>
    rw [if_neg (by simp), List.cons_append, join_cons, join_cons, joinTail_app]
    simp [joinTail]
/-! ### a set out of a text, by the program -/
def stepA (t : List UInt8) : Option Nat := match atoiAll t with
  | .ok v => if v < 12 then some v.toNat else none
  | _ => none
def prsW : List (List UInt8) → BitVec 16 → Option (BitVec 16)
  | [], w => some w
  | t :: r, w => (stepA t).bind fun i => prsW r (w ||| ((BitVec.ofInt 16 1) <<< i))
theorem stepA_itw {i : Nat} (h : i < 12) : stepA (itw i) = some i := by
  unfold stepA itw
  rw [atoi_itoa (i : Int) (by omega) (by omega)]
  dsimp only
  rw [if_pos (by omega), Int.toNat_natCast]
theorem prsW_map : ∀ (L : List Nat) (w : BitVec 16), (∀ i, i ∈ L → i < 12) → prsW (L.map itw) w = some (orL L w)
  | [], w, _ => rfl
  | i :: L, w, h => by
    rw [List.map_cons, prsW, stepA_itw (h i (List.mem_cons_self ..))]
    exact prsW_map L _ fun j hj => h j (List.mem_cons_of_mem _ hj)
theorem mem_small {x : BitVec 16} (h : x.toNat < 4096) {i : Nat} (hi : i ∈ memP x.toNat 16) : i < 12 := by
  unfold memP at hi
  rw [List.mem_filter, decide_eq_true_eq] at hi
  refine Classical.byContradiction fun hge => ?_
  have : 2 ^ 12 ≤ 2 ^ i := Nat.pow_le_pow_right (by decide) (by omega)
  rw [Nat.div_eq_of_lt (by omega)] at hi
  exact absurd hi.2 (by decide)
theorem prsW_text {x : BitVec 16} (h : x.toNat < 4096) : prsW ((memP x.toNat 16).map itw) 0#16 = some x := by
  rw [prsW_map _ _ fun i hi => mem_small h hi, orL_mem]
theorem or_small {a b : BitVec 16} (ha : a.toNat < 4096) (hb : b.toNat < 4096) : (a ||| b).toNat < 4096 := by
  rw [BitVec.toNat_or]
  exact Nat.or_lt_two_pow (n := 12) ha hb
theorem shl_small {i : Nat} (h : i < 12) : ((BitVec.ofInt 16 1) <<< i).toNat < 4096 := by
  have e1 : ((BitVec.ofInt 16 1) <<< i).toNat = 2 ^ i := by
    rw [BitVec.toNat_shiftLeft]
    show 1 <<< i % 2 ^ 16 = 2 ^ i
    rw [Nat.one_shiftLeft, Nat.mod_eq_of_lt (Nat.pow_lt_pow_right (by decide) (by omega))]
  rw [e1]
  show 2 ^ i < 2 ^ 12
  exact Nat.pow_lt_pow_right (by decide) h
theorem prsW_small : ∀ (ws : List (List UInt8)) (w r : BitVec 16), (∀ t, t ∈ ws → DigW t) → w.toNat < 4096 → prsW ws w = some r → r.toNat < 4096
  | [], w, r, _, hw, h => by cases h; exact hw
  | t :: ws, w, r, hd, hw, h => by
    rw [prsW] at h
    obtain ⟨i, hi, h2⟩ := Option.bind_eq_some_iff.1 h
    have hi12 : i < 12 := by
      unfold stepA at hi
      split at hi
      · rename_i v hv
        have := atoi_dig (hd t (List.mem_cons_self ..)) hv
        split at hi
        · cases hi; omega
        · cases hi
      · cases hi
    exact prsW_small ws _ r (fun x hx => hd x (List.mem_cons_of_mem _ hx)) (or_small hw (shl_small hi12)) h2
theorem f97_L0_eq (K : BitVec 16 → Option (BitVec 16 × Int)) (ws : List (List UInt8)) (hd : ∀ t, t ∈ ws → DigW t ∧ t.length ≤ 1000000) (hl : ws.length ≤ 10000000) : ∀ (c k n : Nat) (w : BitVec 16), n + c = ws.length → c < k →
    f97_L0 K ws k (w, n) = match prsW (ws.drop n) w with | some r => K r | none => some (BitVec.ofInt 16 0, 2)
  | 0, k, n, w, hn, hk => by
    obtain ⟨k, rfl⟩ : ∃ q, k = q + 1 := ⟨k - 1, by omega⟩
    rw [f97_L0.eq_2, ifd_neg (by omega), List.drop_eq_nil_of_le (by omega)]
    rfl
  | c + 1, k, n, w, hn, hk => by
    obtain ⟨k, rfl⟩ : ∃ q, k = q + 1 := ⟨k - 1, by omega⟩
    obtain ⟨h1, h2⟩ := hd _ (getD_mem8 ws n [] (by omega))
    rw [f97_L0.eq_2, ifd_pos (by omega), chk_pos (by omega), chk_pos (by omega), getD_drop ws n [] (by omega), prsW]
    unfold f125 atoiO
    rw [if_pos (by omega)]
    generalize ws.getD n [] = t at h1 h2 ⊢
    unfold stepA
    cases ha : atoiAll t with
    | ok v =>
      have hv := atoi_dig h1 ha
      dsimp only
      rw [some_bind]
      by_cases h12 : v < 12
      · rw [if_neg (by simp; omega), if_pos h12, some_bind]
        dsimp only
        rw [chk_pos hv, chk_pos (by omega), f97_L0_eq K ws hd hl c k (n + 1) _ (by omega) (by omega)]
      · rw [if_pos (by simp; omega), if_neg h12]
        rfl
    | _ => rfl
theorem f97_eq (t : List UInt8) (ht : t.length ≤ 1000000) : f97 t = some (match okT t with | some x => (x, 0) | none => (0#16, 2)) := by
  have hp : (fun x : Nat => (f124 (x : Int)).getD false) = pD := by
    funext x
    unfold f124 pD
    show (decide ((x : Int) < 48) || decide ((x : Int) > 57)) = _
    congr 1
    · rw [decide_eq_decide]; omega
    · rw [decide_eq_decide]; omega
  have hd := fields_dig t
  have hlen : ∀ w, w ∈ (goFieldsP pD ⟨t.toArray⟩).map (·.data.toList) → w.length ≤ 1000000 := by
    intro w hw
    unfold goFieldsP at hw
    rw [List.map_map] at hw
    obtain ⟨q, _, rfl⟩ := List.mem_map.1 hw
    show ((⟨t.toArray⟩ : ByteArray).extract q.1 q.2).data.toList.length ≤ 1000000
    rw [extract_toList]
    unfold exL
    simp
    omega
  have hn := fields_len pD ⟨t.toArray⟩
  have hsz : (⟨t.toArray⟩ : ByteArray).size = t.length := by simp [ByteArray.size]
  have htext : ∀ x : BitVec 16, x.toNat < 4096 → textP x = t → prsW ((goFieldsP pD ⟨t.toArray⟩).map (·.data.toList)) 0#16 = some x := by
    intro x hx e
    subst e
    have e0 : (goFieldsP pD ⟨(textP x).toArray⟩).map (·.data.toList) = fldL pD (textP x) none := fields_ascii pD (textP x) (txtW_small _ (words_dig _))
    rw [e0]
    have := fldL_txt ((memP x.toNat 16).map itw) (words_dig _)
    unfold textP
    rw [this]
    exact prsW_text hx
  unfold f97
  rw [jn_eq]
  unfold f123 fieldsO
  rw [if_pos ht, some_bind, hp, show (BitVec.ofInt 16 0) = 0#16 from rfl]
  rw [f97_L0_eq _ _ (fun w hw => ⟨hd w hw, hlen w hw⟩) (by rw [List.length_map]; omega) _ FUEL 0 0#16 (Nat.zero_add _) (fuel_lt (by rw [List.length_map]; omega)), List.drop_zero]
  cases hw : prsW ((goFieldsP pD ⟨t.toArray⟩).map (·.data.toList)) 0#16 with
  | none =>
    dsimp only
    cases ho : okT t with
    | none => rfl
    | some x =>
      obtain ⟨h1, h2⟩ := okT_some ho
      rw [htext x h2 h1] at hw
      cases hw
  | some r =>
    dsimp only
    rw [f83_eq, some_bind]
    have hr := prsW_small _ _ r hd (by decide) hw
    by_cases e : textP r = t
    · rw [if_neg (by simp [e])]
      have := okT_text r
      rw [e, if_pos hr] at this
      rw [this]
    · rw [if_pos (by simpa using e)]
      cases ho : okT t with
      | none => rfl
      | some x =>
        obtain ⟨h1, h2⟩ := okT_some ho
        rw [htext x h2 h1] at hw
        cases hw
        exact absurd h1 e
end Go.Abs
