/- Part 26 of the proof: Num, F48cLaw3, Open4. -/
import Derived.Test.YtfhggldmfbjmeaaGreatDoorStchnkZ25
import Derived.Lib.AtoiAllCases
import Derived.Lib.ItoaLen
namespace Go.Abs
open Go Go.Lib
theorem parse_app : ∀ (a b : List UInt8) (acc : Nat) (v : Nat), parseUint10 acc a = .ok v → parseUint10 acc (a ++ b) = parseUint10 v b
  | [], b, acc, v, h => by
    simp only [parseUint10, NumEnd.ok.injEq] at h
    subst h; rfl
  | c :: a, b, acc, v, h => by
    simp only [parseUint10, List.cons_append] at h ⊢
    split at h
    · split at h
      · cases h
      · split at h
        · cases h
        · rename_i h1 h2 h3
          rw [if_pos h1, if_neg h2, if_neg h3]
          exact parse_app a b _ v h
    · cases h
theorem dig_nat (d : Nat) (h : d < 10) : (UInt8.ofNat (48 + d)).toNat = 48 + d := by
  simp [UInt8.toNat_ofNat']
  omega
theorem parse_dig (n : Nat) (hn : n ≤ 9223372036854775807) : parseUint10 0 (decDigits n) = .ok n := by
  induction n using Nat.strongRecOn with
  | ind n ih =>
    by_cases h : n < 10
    · rw [decDigits, dif_pos h]
      simp only [parseUint10, dig_nat n h]
      rw [if_pos (by omega), if_neg (by omega), if_neg (by omega)]
      congr 1
      omega
    · rw [decDigits, dif_neg h]
      have := ih (n / 10) (by omega) (by omega)
      rw [parse_app _ _ _ _ this]
      simp only [parseUint10, dig_nat (n % 10) (by omega)]
      rw [if_pos (by omega), if_neg (by omega), if_neg (by omega)]
      congr 1
      omega
theorem dig_head (n : Nat) : ∃ c r, decDigits n = c :: r ∧ 48 ≤ c.toNat ∧ c.toNat ≤ 57 := by
  induction n using Nat.strongRecOn with
  | ind n ih =>
    by_cases h : n < 10
    · rw [decDigits, dif_pos h]
      exact ⟨_, _, rfl, by rw [dig_nat n h]; omega, by rw [dig_nat n h]; omega⟩
    · obtain ⟨c, r, e, h1, h2⟩ := ih (n / 10) (by omega)
      rw [decDigits, dif_neg h, e]
      exact ⟨c, _, rfl, h1, h2⟩
theorem atoi_itoa (n : Int) (h0 : 0 ≤ n) (h1 : n ≤ 9223372036854775807) : Lib.atoiAll (Lib.itoa n) = .ok n := by
  rw [Lib.itoa, if_neg (by omega)]
  obtain ⟨m, rfl⟩ : ∃ m : Nat, n = m := ⟨n.toNat, by omega⟩
  rw [Int.toNat_natCast]
  obtain ⟨c, r, e, h2, h3⟩ := dig_head m
  have hp := parse_dig m (by omega)
  rw [e] at hp ⊢
  rw [atoiAll_plain c r (by omega) (by omega)]
  unfold parseMag
  rw [if_neg (by simp), hp]
  unfold signless
  simp only
  rw [if_neg (by omega)]
theorem atoiO_itoa (n : Int) (h0 : 0 ≤ n) (h1 : n ≤ 9223372036854775807) : atoiO (Lib.itoa n) = some (n, false) := by
  unfold atoiO
  have := Lib.itoa_length_le n (by omega) h1
  rw [if_pos (by omega), atoi_itoa n h0 h1]
end Go.Abs
namespace Go.Abs
open Go Go.Lib
/-! ### lines -/
def lineP (p : Pr) : List UInt8 := p.1 ++ [32] ++ itoa p.2.2 ++ [32] ++ p.2.1 ++ [10]
def txtL (l : List Pr) : List UInt8 := (l.map lineP).flatten
theorem txtL_cons (p : Pr) (l : List Pr) : txtL (p :: l) = lineP p ++ txtL l := rfl
theorem txtL_snoc (l : List Pr) (p : Pr) : txtL (l ++ [p]) = txtL l ++ lineP p := by unfold txtL; simp
theorem line_len {p : Pr} (h : okp p) : (lineP p).length ≤ 400 := by
  obtain ⟨h1, h2, h3, h4⟩ := h
  have := gr_len h1; have := gr_len h2; have := ilen (n := p.2.2) (by omega) (by omega)
  unfold lineP
  simp only [List.length_append, List.length_cons, List.length_nil]
  omega
theorem txtL_len : ∀ (l : List Pr), (∀ p, p ∈ l → okp p) → (txtL l).length ≤ 400 * l.length
  | [], _ => by simp [txtL]
  | p :: l, h => by
    have h1 := line_len (h p (List.mem_cons_self ..))
    have h2 := txtL_len l fun q hq => h q (List.mem_cons_of_mem _ hq)
    rw [txtL_cons, List.length_append, List.length_cons]; omega
theorem line_any {F : Int → Option (List UInt8)} {p : Pr} (h : okp p) (hF : F p.2.2 = some (itoa p.2.2)) :
    ((F p.2.2).bind fun (r4 : List UInt8) =>
  chk (p.1.length + ([32] : List UInt8).length ≤ 9223372036854775807) <|
  chk ((p.1 ++ ([32] : List UInt8)).length + r4.length ≤ 9223372036854775807) <|
  chk (((p.1 ++ ([32] : List UInt8)) ++ r4).length + ([32] : List UInt8).length ≤ 9223372036854775807) <|
  chk ((((p.1 ++ ([32] : List UInt8)) ++ r4) ++ ([32] : List UInt8)).length + p.2.1.length ≤ 9223372036854775807) <|
  chk (((((p.1 ++ ([32] : List UInt8)) ++ r4) ++ ([32] : List UInt8)) ++ p.2.1).length + ([10] : List UInt8).length ≤ 9223372036854775807) <|
  some (((((p.1 ++ ([32] : List UInt8)) ++ r4) ++ ([32] : List UInt8)) ++ p.2.1) ++ ([10] : List UInt8))) = some (lineP p) := by
  have hl := line_len h
  unfold lineP at hl ⊢
  simp only [List.length_append, List.length_cons, List.length_nil] at hl
  rw [hF, some_bind, chk_pos (by simp only [List.length_cons, List.length_nil]; omega), chk_pos (by simp only [List.length_append, List.length_cons, List.length_nil]; omega), chk_pos (by simp only [List.length_append, List.length_cons, List.length_nil]; omega), chk_pos (by simp only [List.length_append, List.length_cons, List.length_nil]; omega), chk_pos (by simp only [List.length_append, List.length_cons, List.length_nil]; omega)]
theorem f16_eq {p : Pr} (h : okp p) : f16 p.1 p.2.1 p.2.2 = some (lineP p) := by
  unfold f16
  exact line_any h (ito (by have := h.2.2.1; omega) (by have := h.2.2.2; omega))
theorem f18_eq {p : Pr} (h : okp p) : f18 p.1 p.2.1 p.2.2 = some (lineP p) := by
  unfold f18
  exact line_any h (dig (by have := h.2.2.1; omega) (by have := h.2.2.2; omega))
/-! ### chunks -/
def cks (s : Nat) : Nat → List Pr → List (List UInt8)
  | 0, _ => []
  | c + 1, l => if l = [] then [] else txtL (l.take s) :: cks s c (l.drop s)
theorem cks_nil (s c : Nat) : cks s c [] = [] := by cases c <;> simp [cks]
theorem cks_len (s : Nat) : ∀ (c : Nat) (l : List Pr), (cks s c l).length ≤ c
  | 0, l => by simp [cks]
  | c + 1, l => by
    unfold cks
    split
    · simp
    · have := cks_len s c (l.drop s)
      rw [List.length_cons]; omega
def addL (L : List (List UInt8)) (t : List UInt8) : List (List UInt8) := L.set (L.length - 1) (L.getD (L.length - 1) [] ++ t)
theorem addL_cons (a : List UInt8) {L : List (List UInt8)} (h : L ≠ []) (t : List UInt8) : addL (a :: L) t = a :: addL L t := by
  unfold addL
  cases L with
  | nil => exact absurd rfl h
  | cons b L => simp
theorem cks_ne {s c : Nat} {l : List Pr} (hl : l ≠ []) (hc : 0 < c) : cks s c l ≠ [] := by
  cases c with
  | zero => omega
  | succ c => unfold cks; rw [if_neg hl]; simp
theorem cks_snoc (s : Nat) (hs : 1 ≤ s) (x : Pr) : ∀ (c : Nat) (m : List Pr), m.length + 1 ≤ c → cks s c (m ++ [x]) = if m.length % s = 0 then cks s c m ++ [lineP x] else addL (cks s c m) (lineP x)
  | 0, m, h => by omega
  | c + 1, m, h => by
    conv => lhs; unfold cks
    rw [if_neg (by simp)]
    by_cases hm : m.length < s
    · rw [List.take_of_length_le (by simp; omega), List.drop_eq_nil_of_le (by simp; omega), cks_nil]
      by_cases h0 : m = []
      · subst h0
        rw [if_pos (by simp), cks_nil]
        simp [txtL]
      · have h1 : 0 < m.length := List.length_pos_iff.2 h0
        rw [if_neg (by rw [Nat.mod_eq_of_lt hm]; omega)]
        unfold cks
        rw [if_neg h0, List.take_of_length_le (by omega), List.drop_eq_nil_of_le (by omega), cks_nil, txtL_snoc]
        simp [addL]
    · have h0 : m ≠ [] := by rintro rfl; simp at hm; omega
      have ih := cks_snoc s hs x c (m.drop s) (by rw [List.length_drop]; omega)
      have hmod : (m.drop s).length % s = m.length % s := by
        rw [List.length_drop]
        exact (Nat.mod_eq_sub_mod (by omega)).symm
      rw [List.take_append_of_le_length (by omega), List.drop_append_of_le_length (by omega), ih, hmod]
      have e : cks s (c + 1) m = txtL (m.take s) :: cks s c (m.drop s) := by
        conv => lhs; unfold cks
        rw [if_neg h0]
      rw [e]
      by_cases h1 : m.length % s = 0
      · rw [if_pos h1, if_pos h1]; rfl
      · rw [if_neg h1, if_neg h1, addL_cons]
        refine cks_ne ?_ (by omega)
        intro e2
        rw [e2] at hmod
        simp at hmod
        omega
/-! ### the reference -/
theorem f8_L0_eq (x : List Pr) (hx : x.length ≤ 64) (ho : ∀ p, p ∈ x → okp p) (s : Nat) (hs : 1 ≤ s) (K : List (List UInt8) → Option (Int × List (List UInt8))) : ∀ (c k n : Nat), n + c = x.length → c < k →
    f8_L0 x (s : Int) K k (n, cks s 65 (x.take n)) = K (cks s 65 x)
  | 0, k, n, hn, hk => by
    obtain ⟨k, rfl⟩ : ∃ q, k = q + 1 := ⟨k - 1, by omega⟩
    rw [f8_L0.eq_2, ifd_neg (by omega), List.take_of_length_le (by omega)]
  | c + 1, k, n, hn, hk => by
    obtain ⟨k, rfl⟩ : ∃ q, k = q + 1 := ⟨k - 1, by omega⟩
    have ih := f8_L0_eq x hx ho s hs K c k (n + 1) (by omega) (by omega)
    have hp := ho _ (getD_mem x n (default : Pr) (by omega))
    have hll := line_len hp
    have hlt : (x.take n).length = n := by rw [List.length_take]; omega
    have ht : x.take (n + 1) = x.take n ++ [x.getD n default] := by
      rw [List.take_add_one]
      simp [List.getD_eq_getElem?_getD, show n < x.length by omega]
    have hsn := cks_snoc s hs (x.getD n default) 65 (x.take n) (by omega)
    rw [← ht, hlt] at hsn
    have hcl := cks_len s 65 (x.take n)
    have hmod : ((n : Int) % (s : Int) == 0) = decide (n % s = 0) := by
      rw [Bool.eq_iff_iff, beq_iff_eq, decide_eq_true_eq]
      omega
    -- all texts of chunks are short
    have hbig : ∀ (c : Nat) (l : List Pr), (∀ p, p ∈ l → okp p) → l.length ≤ 64 → ∀ t, t ∈ cks s c l → t.length ≤ 25600 := by
      intro c
      induction c with
      | zero => intro l _ _ t ht; cases ht
      | succ c ih2 =>
        intro l hl h64 t ht
        unfold cks at ht
        split at ht
        · cases ht
        · rcases List.mem_cons.1 ht with rfl | ht
          · have := txtL_len (l.take s) fun p hp => hl p (List.mem_of_mem_take hp)
            have h2 : (l.take s).length ≤ l.length := by rw [List.length_take]; omega
            omega
          · exact ih2 (l.drop s) (fun p hp => hl p (List.mem_of_mem_drop hp)) (by rw [List.length_drop]; omega) t ht
    have hold := hbig 65 (x.take n) (fun p hp => ho p (List.mem_of_mem_take hp)) (by omega)
    -- the last text grows by the line
    have step : ∀ L : List (List UInt8), L ≠ [] → L.length ≤ 66 → (∀ t, t ∈ L → t.length ≤ 25600) → (f18 ((x.getD n (default : List UInt8 × List UInt8 × Int)).1) ((x.getD n (default : List UInt8 × List UInt8 × Int)).2.1) ((x.getD n (default : List UInt8 × List UInt8 × Int)).2.2)).bind (fun (r7 : List UInt8) =>
        chk (-9223372036854775808 ≤ ((((L).length : Nat) : Int) - (1 : Int)) ∧ ((((L).length : Nat) : Int) - (1 : Int)) ≤ 9223372036854775807) <|
        chk (-9223372036854775808 ≤ ((((L).length : Nat) : Int) - (1 : Int)) ∧ ((((L).length : Nat) : Int) - (1 : Int)) ≤ 9223372036854775807) <|
        chk (0 ≤ ((((L).length : Nat) : Int) - (1 : Int)) ∧ ((((L).length : Nat) : Int) - (1 : Int)) < (((L).length : Nat) : Int)) <|
        chk (((((((L).length : Nat) : Int) - (1 : Int))).toNat) < (L).length) <|
        chk ((n : Int) < (((x).length : Nat) : Int)) <|
        chk ((L.getD ((((((L).length : Nat) : Int) - (1 : Int))).toNat) []).length + r7.length ≤ 9223372036854775807) <|
        chk (0 ≤ ((((L).length : Nat) : Int) - (1 : Int)) ∧ ((((L).length : Nat) : Int) - (1 : Int)) < (((L).length : Nat) : Int)) <|
        chk (((((((L).length : Nat) : Int) - (1 : Int))).toNat) < (L).length) <|
        chk (((n : Int) + (1 : Int)) ≤ 9223372036854775807) <|
        (f8_L0 x (s : Int) K k) ((n + 1), (L.set ((((((L).length : Nat) : Int) - (1 : Int))).toNat) ((L.getD ((((((L).length : Nat) : Int) - (1 : Int))).toNat) []) ++ r7)))) = f8_L0 x (s : Int) K k (n + 1, addL L (lineP (x.getD n default))) := by
      intro L hL h66 hb
      have h1 : 0 < L.length := List.length_pos_iff.2 hL
      have e : (((L.length : Nat) : Int) - 1).toNat = L.length - 1 := by omega
      have hlast := hb _ (getD_mem L (L.length - 1) [] (by omega))
      rw [f18_eq hp, some_bind, e, chk_pos (by omega), chk_pos (by omega), chk_pos (by omega), chk_pos (by omega), chk_pos (by omega), chk_pos (by omega), chk_pos (by omega), chk_pos (by omega), chk_pos (by omega)]
      rfl
    rw [f8_L0.eq_2, ifd_pos (by omega), jn_eq, chk_pos (by omega), hmod]
    by_cases h0 : n % s = 0
    · rw [if_pos (by simpa using h0), chk_pos (by omega)]
      refine (step (cks s 65 (x.take n) ++ [[]]) (by simp) (by simp; omega) (fun t ht => ?_)).trans ?_
      · rcases List.mem_append.1 ht with ht | ht
        · exact hold t ht
        · rw [List.mem_singleton] at ht; rw [ht]; simp
      · rw [if_pos h0] at hsn
        have e : addL (cks s 65 (x.take n) ++ [[]]) (lineP (x.getD n default)) = cks s 65 (x.take n) ++ [lineP (x.getD n default)] := by
          unfold addL
          simp
        rw [e, ← hsn, ih]
    · rw [if_neg (by simpa using h0)]
      have hne : cks s 65 (x.take n) ≠ [] := by
        refine cks_ne ?_ (by omega)
        intro e
        rw [e] at hlt
        simp at hlt
        rw [← hlt] at h0
        simp at h0
      refine (step _ hne (by omega) hold).trans ?_
      rw [if_neg h0] at hsn
      rw [← hsn, ih]
def chP (x : List Pr) (s : Int) : Int × List (List UInt8) := if vald x ≠ 0 then (vald x, []) else if s < 1 ∨ 64 < s then (7, []) else (0, cks s.toNat 65 x)
theorem f8_eq (x : List Pr) (s : Int) (hb : ∀ p, p ∈ x → bndP p) : f8 x s = some (chP x s) := by
  unfold f8 chP
  rw [f17_eq x hb, some_bind]
  by_cases hv : vald x = 0
  · have hS := stv_of hv
    rw [if_neg (show ¬ ((vald x != 0) = true) by simp [hv]), if_neg (show ¬ (vald x ≠ 0) by simp [hv])]
    by_cases hs : s < 1 ∨ 64 < s
    · rw [if_pos (by simpa using hs), if_pos hs]
    · rw [if_neg (by simpa using hs), if_neg hs, jn_eq]
      obtain ⟨m, rfl⟩ : ∃ m : Nat, s = m := ⟨s.toNat, by omega⟩
      have := f8_L0_eq x hS.len hS.each m (by omega) (fun l8 => some ((0 : Int), l8)) x.length FUEL 0 (by omega) (fuel_lt (by have := hS.len; omega))
      rw [List.take_zero, cks_nil] at this
      rw [this, Int.toNat_natCast]
  · rw [if_pos (by simpa using hv), if_pos hv]
/-! ### the program -/
theorem f6_L0_eq (x : List Pr) (hx : x.length ≤ 64) (ho : ∀ p, p ∈ x → okp p) {R : Type} (K : List UInt8 → Option (Nat × (List Pr × Int × List (List UInt8)))) : ∀ (c k n : Nat) (t : List UInt8), n + c = x.length → c < k → t.length ≤ 400 * n →
    f6_L0 x K k (t, n) = K (t ++ txtL (x.drop n))
  | 0, k, n, t, hn, hk, ht => by
    obtain ⟨k, rfl⟩ : ∃ q, k = q + 1 := ⟨k - 1, by omega⟩
    rw [f6_L0.eq_2, ifd_neg (by omega), List.drop_eq_nil_of_le (by omega)]
    simp [txtL]
  | c + 1, k, n, t, hn, hk, ht => by
    obtain ⟨k, rfl⟩ : ∃ q, k = q + 1 := ⟨k - 1, by omega⟩
    have hp := ho _ (getD_mem x n (default : Pr) (by omega))
    have hll := line_len hp
    have ih := f6_L0_eq x hx ho (R := R) K c k (n + 1) (t ++ lineP (x.getD n default)) (by omega) (by omega) (by rw [List.length_append]; omega)
    rw [f6_L0.eq_2, ifd_pos (by omega), chk_pos (by omega), f16_eq hp, some_bind, chk_pos (by omega), chk_pos (by omega), ih, getD_drop x n default (by omega), txtL_cons, List.append_assoc]
theorem f6_Y_eq (l : List Pr) (i : Int) (L : List (List UInt8)) (x : List Pr) (hx : x.length ≤ 64) (ho : ∀ p, p ∈ x → okp p) (hL : L.length ≤ 64) : f6_Y70001 (l, i, L) x = some (0, (l, i, L ++ [txtL x])) := by
  unfold f6_Y70001
  dsimp only
  rw [jn_eq]
  refine (f6_L0_eq x hx ho (R := Unit) _ x.length FUEL 0 [] (by omega) (fuel_lt (by omega)) (by simp)).trans ?_
  rw [List.drop_zero, List.nil_append, chk_pos (by omega)]
theorem f31_L0_eq (x : List Pr) (hx : x.length ≤ 64) (ho : ∀ p, p ∈ x → okp p) (s : Nat) (hs : 1 ≤ s) (hs2 : s ≤ 64) : ∀ (c k i : Nat) (L : List (List UInt8)), x.length - i ≤ c → i ≤ 128 → c < k → L.length ≤ i →
    f31_L0 f6_Y70001 k ((i : Int), (s : Int), x, L, 0) = some (0, x, (s : Int), L ++ cks s c (x.drop i))
  | c, k, i, L, hc, hi, hk, hL => by
    obtain ⟨k, rfl⟩ : ∃ q, k = q + 1 := ⟨k - 1, by omega⟩
    rw [f31_L0.eq_2]
    by_cases h : i < x.length
    · obtain ⟨c, rfl⟩ : ∃ q, c = q + 1 := ⟨c - 1, by omega⟩
      have ih := f31_L0_eq x hx ho s hs hs2 c k (i + s) (L ++ [txtL ((x.drop i).take s)]) (by omega) (by omega) (by omega) (by simp; omega)
      have e0 : ((i : Int)).toNat = i := Int.toNat_natCast i
      have hpart : (x.take (((i : Int) + (min (s : Int) (((x.length - i : Nat)) : Int))).toNat)).drop i = (x.drop i).take s := by
        rw [List.drop_take]
        rcases Nat.le_total s (x.length - i) with h1 | h1
        · rw [show ((i : Int) + (min (s : Int) (((x.length - i : Nat)) : Int))).toNat - i = s from by omega]
        · rw [List.take_of_length_le (by rw [List.length_drop]; omega), List.take_of_length_le (by rw [List.length_drop]; omega)]
      rw [ifd_pos (by omega), jn_eq, e0, chk_pos (by omega), chk_pos rfl, hpart, f6_Y_eq _ _ _ _ (by rw [List.length_take, List.length_drop]; omega) (fun p hp => ho p (List.mem_of_mem_drop (List.mem_of_mem_take hp))) (by omega), some_bind]
      dsimp only
      rw [if_pos rfl, chk_pos (by omega), chk_pos (by omega), chk_pos (by omega), if_neg (by simp), chk_pos (by omega)]
      have e1 : ((i : Int) + (s : Int)) = ((i + s : Nat) : Int) := by omega
      rw [e1, ih]
      have hne : x.drop i ≠ [] := by
        intro e
        have := congrArg List.length e
        rw [List.length_drop] at this
        simp at this
        omega
      have e2 : cks s (c + 1) (x.drop i) = txtL ((x.drop i).take s) :: cks s c ((x.drop i).drop s) := by
        conv => lhs; unfold cks
        rw [if_neg hne]
      rw [e2, List.drop_drop]
      simp
    · rw [ifd_neg (by omega), List.drop_eq_nil_of_le (by omega), cks_nil, List.append_nil]
theorem f6_eq (x : List Pr) (s : Int) (hb : ∀ p, p ∈ x → bndP p) : f6 x s = some (chP x s) := by
  unfold f6 chP
  rw [f14_eq x hb, some_bind]
  by_cases hv : vald x = 0
  · have hS := stv_of hv
    rw [if_neg (show ¬ ((vald x != 0) = true) by simp [hv]), if_neg (show ¬ (vald x ≠ 0) by simp [hv])]
    by_cases hs : s < 1 ∨ 64 < s
    · rw [if_pos (by simpa using hs), if_pos hs]
    · rw [if_neg (by simpa using hs), if_neg hs]
      obtain ⟨m, rfl⟩ : ∃ m : Nat, s = m := ⟨s.toNat, by omega⟩
      unfold f15 f31
      rw [ifd_neg (by omega), some_bind]
      dsimp only
      have := f31_L0_eq x hS.len hS.each m (by omega) (by omega) 65 FUEL 0 [] (by have := hS.len; omega) (by omega) (fuel_lt (by omega)) (by simp)
      rw [show ((0 : Nat) : Int) = (0 : Int) from rfl] at this
      rw [this, some_bind, chk_pos (by simp), if_pos rfl, List.drop_zero, List.nil_append, Int.toNat_natCast]
  · rw [if_pos (by simpa using hv), if_pos hv]
/-! ### the way back -/
def noLf (w : List UInt8) : Prop := ∀ b, b ∈ w → b ≠ 10
theorem gr_lf {s : List UInt8} {n : Int} (h : gr s n = true) : noLf s := by
  rintro c hc rfl
  unfold gr at h
  simp only [Bool.and_eq_true, Bool.not_eq_true', List.any_eq_false] at h
  have := h.1 10 hc
  exact this (by decide)
theorem dig_mem (n : Nat) : ∀ b, b ∈ decDigits n → 48 ≤ b.toNat ∧ b.toNat ≤ 57 := by
  induction n using Nat.strongRecOn with
  | ind n ih =>
    intro b hb
    by_cases h : n < 10
    · rw [decDigits, dif_pos h, List.mem_singleton] at hb
      rw [hb, dig_nat n h]; omega
    · rw [decDigits, dif_neg h] at hb
      rcases List.mem_append.1 hb with hb | hb
      · exact ih (n / 10) (by omega) b hb
      · rw [List.mem_singleton] at hb
        rw [hb, dig_nat (n % 10) (by omega)]; omega
theorem itoa_mem {n : Int} (h : 0 ≤ n) : ∀ b, b ∈ itoa n → 48 ≤ b.toNat ∧ b.toNat ≤ 57 := by
  rw [Lib.itoa, if_neg (by omega)]
  exact dig_mem _
theorem itoa_lf {n : Int} (h : 0 ≤ n) : noLf (itoa n) := by
  rintro b hb rfl
  exact absurd (itoa_mem h 10 hb).1 (by decide)
theorem itoa_sp {n : Int} (h : 0 ≤ n) : noSp (itoa n) := by
  rintro b hb rfl
  exact absurd (itoa_mem h 32 hb).1 (by decide)
theorem itoa_15 (n : Int) (h0 : 0 ≤ n) (h1 : n ≤ 1000000000000) : (itoa n).length ≤ 15 := by
  rw [Lib.itoa, if_neg (by omega)]
  obtain ⟨m, rfl⟩ : ∃ m : Nat, n = m := ⟨n.toNat, by omega⟩
  rw [Int.toNat_natCast]
  have : ∀ (k m : Nat), m < 10 ^ (k + 1) → (decDigits m).length ≤ k + 1 := by
    intro k
    induction k with
    | zero => intro m h; rw [decDigits, dif_pos (by omega)]; simp
    | succ k ih =>
      intro m h
      by_cases h' : m < 10
      · rw [decDigits, dif_pos h']; simp
      · rw [decDigits, dif_neg h', List.length_append]
        have := ih (m / 10) (by rw [Nat.pow_succ] at h; omega)
        simp only [List.length_cons, List.length_nil]
        omega
  exact this 14 m (by omega)
def wordP (p : Pr) : List UInt8 := p.1 ++ 32 :: (itoa p.2.2 ++ 32 :: p.2.1)
theorem line_word (p : Pr) : lineP p = wordP p ++ [10] := by unfold lineP wordP; simp
theorem word_lf {p : Pr} (h : okp p) : noLf (wordP p) := by
  obtain ⟨h1, h2, h3, h4⟩ := h
  intro b hb
  unfold wordP at hb
  simp only [List.mem_append, List.mem_cons] at hb
  rcases hb with hb | rfl | hb | rfl | hb
  · exact gr_lf h1 b hb
  · decide
  · exact itoa_lf (by omega) b hb
  · decide
  · exact gr_lf h2 b hb
theorem ixB_cons (b : UInt8) (l : List UInt8) (c : UInt8) : ixB (b :: l) c = if b == c then 0 else if ixB l c == -1 then -1 else ixB l c + 1 := by
  rw [← ixB_eq, ← ixB_eq]; rfl
theorem ixB_lf : ∀ (w r : List UInt8), noLf w → ixB (w ++ 10 :: r) 10 = (w.length : Int)
  | [], r, _ => by rw [List.nil_append, ixB_cons, if_pos (by rfl)]; rfl
  | b :: w, r, h => by
    rw [List.cons_append, ixB_cons, if_neg (by simpa using h b (List.mem_cons_self ..)), ixB_lf w r fun c hc => h c (List.mem_cons_of_mem _ hc), if_neg (by simp), List.length_cons]
    omega
theorem f37_eq (w : List UInt8) (hw : w.length ≤ 1000000) : f37 (w ++ [10]) [10] = some w := by
  have hl : (w ++ [10]).length = w.length + 1 := by simp
  have h1 : ([10] : List UInt8).length = 1 := rfl
  have e : (((((w ++ [10]).length : Nat) : Int) - ((([10] : List UInt8).length : Nat) : Int)).toNat) = w.length := by rw [hl, h1]; omega
  unfold f37 f48 f62
  rw [e, chk_pos (by intro; omega), chk_pos (by intro; omega), some_bind]
  have e2 : (decide ((((w ++ [10]).length : Nat) : Int) ≥ ((([10] : List UInt8).length : Nat) : Int)) && (w ++ [10]).drop w.length == [10]) = true := by
    rw [Bool.and_eq_true, decide_eq_true_eq, List.drop_left]
    exact ⟨by omega, by rfl⟩
  rw [e2, if_pos rfl, chk_pos (by omega), chk_pos (by omega), List.take_left]
  rfl
theorem f20_eq {p : Pr} (h : okp p) : f20 (lineP p) = some (p.1, p.2.1, p.2.2, true) := by
  have hl := line_len h
  have h16 := f16_eq h
  have hs : spl (wordP p) = [p.1, itoa p.2.2, p.2.1] := by
    unfold wordP
    rw [spl_app _ _ (gr_sp h.1), spl_app _ _ (itoa_sp (by have := h.2.2.1; omega)), spl_word _ (gr_sp h.2.1)]
  have h15 := itoa_15 p.2.2 (by have := h.2.2.1; omega) (by have := h.2.2.2; omega)
  have hat := atoiO_itoa p.2.2 (by have := h.2.2.1; omega) (by have := h.2.2.2; omega)
  have hwl : (wordP p).length ≤ 400 := by rw [line_word, List.length_append] at hl; simp at hl; omega
  have h21 : f21 (wordP p) [32] = some [p.1, itoa p.2.2, p.2.1] := by
    unfold f21 splitO
    rw [← hs, ← split_spl]
    exact if_pos (by omega)
  unfold f20
  rw [line_word p, f37_eq _ (by omega), some_bind, h21, some_bind, chk_pos (by intro; simp), chk_pos (by intro; simp)]
  have e1 : ([p.1, itoa p.2.2, p.2.1] : List (List UInt8)).getD 1 [] = itoa p.2.2 := rfl
  have e0 : ([p.1, itoa p.2.2, p.2.1] : List (List UInt8)).getD 0 [] = p.1 := rfl
  have e2 : ([p.1, itoa p.2.2, p.2.1] : List (List UInt8)).getD 2 [] = p.2.1 := rfl
  rw [e1, e0, e2, if_neg (by simp; omega)]
  unfold f38
  rw [hat, some_bind, chk_pos (by simp), chk_pos (by simp), chk_pos (by simp), chk_pos (by simp), chk_pos (by simp), chk_pos (by simp)]
  dsimp only
  rw [show ((!false) == true) = true from rfl]
  have e3 : (true = true) := rfl
  rw [optc_t, h16, some_bind, line_word p]
  simp
theorem f35_L0_eq (x : List Pr) (hx : x.length ≤ 64) (ho : ∀ p, p ∈ x → okp p) (e : Int) : ∀ (c k : Nat) (m L : List Pr), (∀ p, p ∈ m → okp p) → m.length ≤ c → c < k → L.length + m.length ≤ 64 →
    f35_L0 f10_Y70002 k (txtL m, e, L, 0) = some (0, e, L ++ m, [])
  | c, k, [], L, hm, hc, hk, hL => by
    obtain ⟨k, rfl⟩ : ∃ q, k = q + 1 := ⟨k - 1, by omega⟩
    rw [f35_L0.eq_2, ifd_neg (by simp [txtL]), List.append_nil]
    rfl
  | c, k, p :: m, L, hm, hc, hk, hL => by
    obtain ⟨k, rfl⟩ : ∃ q, k = q + 1 := ⟨k - 1, by omega⟩
    rw [List.length_cons] at hc hL
    obtain ⟨c, rfl⟩ : ∃ q, c = q + 1 := ⟨c - 1, by omega⟩
    have hp := hm p (List.mem_cons_self ..)
    have hll := line_len hp
    have hml := txtL_len m fun q hq => hm q (List.mem_cons_of_mem _ hq)
    have ih := f35_L0_eq x hx ho e c k m (L ++ [p]) (fun q hq => hm q (List.mem_cons_of_mem _ hq)) (by omega) (by omega) (by simp; omega)
    have hwl : (lineP p).length = (wordP p).length + 1 := by rw [line_word]; simp
    have hix : f36 (txtL (p :: m)) 10 = some ((wordP p).length : Int) := by
      unfold f36 ixbO
      rw [show (10 : Int).toNat.toUInt8 = 10 from rfl, txtL_cons, line_word, List.append_assoc]
      exact congrArg some (ixB_lf (wordP p) (txtL m) (word_lf hp))
    have hlen : (txtL (p :: m)).length = (wordP p).length + 1 + (txtL m).length := by rw [txtL_cons, List.length_append, hwl]
    have et : (((wordP p).length : Int) + 1).toNat = (lineP p).length := by omega
    rw [f35_L0.eq_2, ifd_pos (by omega), jn_eq, hix, some_bind, ifd_pos (by omega), chk_pos (by omega), chk_pos (by omega), chk_pos (by omega), chk_pos (by omega), et, txtL_cons, List.take_left, List.drop_left]
    dsimp only
    rw [chk_pos rfl]
    unfold f10_Y70002
    dsimp only
    rw [f20_eq hp, some_bind, if_neg (by simp), chk_pos (by omega), some_bind]
    dsimp only
    rw [if_pos rfl, if_neg (by simp)]
    refine ih.trans ?_
    simp
theorem cks_parts (s : Nat) (hs : 1 ≤ s) : ∀ (c : Nat) (l : List Pr), l.length ≤ c → ∃ ps : List (List Pr), cks s c l = ps.map txtL ∧ ps.flatten = l ∧ ∀ q, q ∈ ps → q ≠ []
  | 0, l, h => ⟨[], rfl, by rw [(List.length_eq_zero_iff.1 (by omega) : l = [])]; rfl, by simp⟩
  | c + 1, l, h => by
    unfold cks
    by_cases h0 : l = []
    · rw [if_pos h0]
      exact ⟨[], rfl, by rw [h0]; rfl, by simp⟩
    · rw [if_neg h0]
      have h1 : 0 < l.length := List.length_pos_iff.2 h0
      obtain ⟨ps, e1, e2, e3⟩ := cks_parts s hs c (l.drop s) (by rw [List.length_drop]; omega)
      refine ⟨l.take s :: ps, by rw [e1]; rfl, by rw [List.flatten_cons, e2, List.take_append_drop], fun q hq => ?_⟩
      rcases List.mem_cons.1 hq with rfl | hq
      · intro e
        rcases List.take_eq_nil_iff.1 e with e | e
        · omega
        · exact h0 e
      · exact e3 q hq
theorem f10_L0_eq (ps : List (List Pr)) (hl : ps.length ≤ 64) (hf : ps.flatten.length ≤ 64) (ho : ∀ q, q ∈ ps → q ≠ [] ∧ ∀ p, p ∈ q → okp p) (K : (Int × List Pr) → Option (List Pr × Int)) : ∀ (c k n : Nat) (L : List Pr), n + c = ps.length → c < k → L.length + (ps.drop n).flatten.length ≤ 64 →
    f10_L0 (ps.map txtL) K k (n, 0, L) = K (0, L ++ (ps.drop n).flatten)
  | 0, k, n, L, hn, hk, hL => by
    obtain ⟨k, rfl⟩ : ∃ q, k = q + 1 := ⟨k - 1, by omega⟩
    rw [f10_L0.eq_2, ifd_neg (by rw [List.length_map]; omega), List.drop_eq_nil_of_le (by omega)]
    simp
  | c + 1, k, n, L, hn, hk, hL => by
    obtain ⟨k, rfl⟩ : ∃ q, k = q + 1 := ⟨k - 1, by omega⟩
    have hd := getD_drop ps n [] (by omega)
    rw [hd, List.flatten_cons, List.length_append] at hL
    have hq := ho _ (getD_mem ps n [] (by omega))
    have ih := f10_L0_eq ps hl hf ho K c k (n + 1) (L ++ ps.getD n []) (by omega) (by omega) (by rw [List.length_append]; omega)
    have hg : (ps.map txtL).getD n [] = txtL (ps.getD n []) := by
      simp [List.getD_eq_getElem?_getD, show n < ps.length by omega]
    have hne : txtL (ps.getD n []) ≠ [] := by
      intro e
      cases hps : ps.getD n [] with
      | nil => exact hq.1 hps
      | cons p r =>
        rw [hps, txtL_cons, line_word] at e
        simp at e
    rw [f10_L0.eq_2, ifd_pos (by rw [List.length_map]; omega), chk_pos (by rw [List.length_map]; omega), hg, if_neg (by simpa using hne)]
    unfold f19 f35
    rw [some_bind, f35_L0_eq (ps.getD n []) (by omega) hq.2 0 64 FUEL (ps.getD n []) L hq.2 (by omega) (fuel_lt (by omega)) (by omega), some_bind]
    dsimp only
    rw [chk_pos (by simp), if_pos rfl, chk_pos (by omega), ih, hd, List.flatten_cons, List.append_assoc]
theorem f10_eq {x : List Pr} (hS : StV x) (s : Nat) (hs : 1 ≤ s) : f10 (cks s 65 x) = some (x, 0) := by
  obtain ⟨ps, e1, e2, e3⟩ := cks_parts s hs 65 x (by have := hS.len; omega)
  have hl := hS.len
  have hps : ps.length ≤ 64 := by
    have : ∀ (ps : List (List Pr)), (∀ q, q ∈ ps → q ≠ []) → ps.length ≤ ps.flatten.length := by
      intro ps
      induction ps with
      | nil => intro _; simp
      | cons q ps ih =>
        intro h
        have h1 : 0 < q.length := List.length_pos_iff.2 (h q (List.mem_cons_self ..))
        have h2 := ih fun r hr => h r (List.mem_cons_of_mem _ hr)
        rw [List.flatten_cons, List.length_append, List.length_cons]; omega
    have := this ps e3
    rw [e2] at this
    omega
  unfold f10
  rw [jn_eq, e1]
  refine (f10_L0_eq ps hps (by rw [e2]; omega) (fun q hq => ⟨e3 q hq, fun p hp => hS.each p (by rw [← e2]; exact List.mem_flatten_of_mem hq hp)⟩) _ ps.length FUEL 0 [] (by omega) (fuel_lt (by omega)) (by rw [List.drop_zero, e2]; simp; omega)).trans ?_
  rw [List.drop_zero, e2, List.nil_append]
  dsimp only
  rw [f14_eq x (stv_bnd hS), some_bind, vald_of hS, if_neg (by simp)]
theorem f5_eq (x : List Pr) (hl : x.length ≤ 9223372036854775807) : ∃ r, f5 x = some r ∧ (r = true → x.length ≤ 70) := by
  unfold f5
  simp only [jn]
  rw [any_up (fun q i => f5_L0 x (fun _ => some (decide (((x.length : Nat) : Int) ≤ 70))) q i) x (default : Pr) (fun p => decide (((p.1.length : Nat) : Int) > 80) || decide (((p.2.1.length : Nat) : Int) > 300)) (some false) (some (decide (((x.length : Nat) : Int) ≤ 70))) (fun q i hi => by
      show f5_L0 _ _ (q + 1) i = _
      conv => lhs; unfold f5_L0
      rw [ifd_pos (by omega), chk_pos (by omega), chk_pos (fun _ => by omega), chk_pos (by omega)]) (fun q => by
      show f5_L0 _ _ (q + 1) _ = _
      conv => lhs; unfold f5_L0
      rw [ifd_neg (by omega)]) FUEL (fuel_lt (by omega))]
  split
  · exact ⟨_, rfl, fun h => by cases h⟩
  · exact ⟨_, rfl, fun h => by simp only [decide_eq_true_eq] at h; omega⟩
theorem f3_true (x : List Pr) (s : Int) (hx : ∀ p, p ∈ x → okP p) (n : x.length ≤ 9223372036854775807) (_h1 : -9223372036854775808 ≤ s) (_h2 : s ≤ 9223372036854775807) : f3 x s = some true := by
  obtain ⟨r, hr, hr2⟩ := f5_eq x n
  have hb : ∀ p, p ∈ x → bndP p := fun p hp => ⟨(hx p hp).1, (hx p hp).2.1⟩
  unfold f3
  rw [f4_true, some_bind, hr]
  rw [show ((!true) == false) = true from rfl, optc_t, some_bind]
  cases r with
  | false => rw [if_pos (by rfl)]; rfl
  | true =>
    have hl := hr2 rfl
    rw [if_neg (by simp), f7_eq x (by omega), some_bind, f6_eq x s hb, some_bind, f8_eq x s hb, some_bind]
    have hcl : (chP x s).2.length ≤ 1000000 := by
      unfold chP
      split
      · simp
      · split
        · simp
        · have := cks_len s.toNat 65 x
          dsimp only
          omega
    have e1 : ((chP x s).1 != (chP x s).1) = false := by simp
    have e2 : ((chP x s).1 == (chP x s).1) = true := by simp
    rw [e1, show ((false == false) = true) from rfl, optc_t, f9_refl _ hcl, some_bind, e2]
    by_cases hc : (chP x s).1 = 0
    · rw [if_neg (by simp [hc])]
      have hS : StV x ∧ 1 ≤ s ∧ (chP x s).2 = cks s.toNat 65 x := by
        unfold chP at hc ⊢
        by_cases hv : vald x = 0
        · rw [if_neg (by simp [hv])] at hc ⊢
          by_cases hs : s < 1 ∨ 64 < s
          · rw [if_pos hs] at hc; cases hc
          · rw [if_neg hs]
            exact ⟨stv_of hv, by omega, rfl⟩
        · rw [if_pos hv] at hc; exact absurd hc hv
      rw [hS.2.2, f10_eq hS.1 s.toNat (by omega), some_bind]
      dsimp only
      rw [show ((0 : Int) == 0) = true from rfl, show ((true == true) = true) from rfl, optc_t, f11_refl x (by omega), some_bind]
      rfl
    · rw [if_pos (by simpa using hc), show ((true == true) = true) from rfl, optc_t, some_bind]
      rfl
end Go.Abs
namespace Go.Abs
open Go Go.RowKit Go.ChangeShapes Go.WideShapes Go.ChangeAt Go.Deep
section
variable {P : Program} {W : World} {t e : TypeId} {base : Nat} {v : Value}
end
end Go.Abs
