/- Part 30 of the proof: Par19, Pl19p, Val19p, Aw19p, F19Law11, Cpt, Nrm19p, F19Law10. -/
import Derived.Test.YtmcmhjdmilgoeaaGreatDoorFlttxtZ29
import Derived.Lib.CountLaws
import Derived.Lib.Split
namespace Go.Abs
open Go Go.Lib
def byzT : List UInt8 := [98, 121, 122, 32]
def craT : List UInt8 := [99, 114, 97, 115, 104, 32]
def noneT : List UInt8 := [110, 111, 110, 101]
def sepT : List UInt8 := [32, 124, 32]
/-- the text of a fault -/
def textF (a : Flt) : List UInt8 :=
  if a.1 = 0#16 then (if a.2 = 0#16 then noneT else craT ++ textP a.2) else (if a.2 = 0#16 then byzT ++ textP a.1 else byzT ++ textP a.1 ++ 32 :: (craT ++ textP a.2))
def fmtF (m : List Flt) : List UInt8 := join (m.map textF) sepT
def rdF (a : Flt) : Prop := a.1.toNat < 4096 ∧ a.2.toNat < 4096
/-! ### what stands in a text -/
theorem textP_in (x : BitVec 16) : ∃ t, textP x = 123 :: (t ++ [125]) ∧ ∀ b, b ∈ t → b = 32 ∨ (48 ≤ b.toNat ∧ b.toNat ≤ 57) := by
  refine ⟨join ((memP x.toNat 16).map itw) [32], rfl, ?_⟩
  have ht : ∀ L : List Nat, ∀ b, b ∈ joinTail [32] (L.map itw) → b = 32 ∨ (48 ≤ b.toNat ∧ b.toNat ≤ 57) := by
    intro L
    induction L with
    | nil => intro b hb; cases hb
    | cons i L ih =>
      intro b hb
      rw [List.map_cons, joinTail_cons] at hb
      simp only [List.mem_append, List.mem_cons, List.not_mem_nil, or_false] at hb
      rcases hb with (rfl | hb) | hb
      · exact .inl rfl
      · exact .inr ((itw_dig i).2 b hb)
      · exact ih b hb
  intro b hb
  generalize memP x.toNat 16 = L at hb
  cases L with
  | nil => cases hb
  | cons i L =>
    rw [List.map_cons, join_cons] at hb
    rcases List.mem_append.1 hb with hb | hb
    · exact .inr ((itw_dig i).2 b hb)
    · exact ht L b hb
theorem textP_bar (x : BitVec 16) : ∀ b, b ∈ textP x → b ≠ 124 := by
  obtain ⟨t, h1, h2⟩ := textP_in x
  rw [h1]
  intro b hb
  simp only [List.mem_cons, List.mem_append, List.not_mem_nil, or_false] at hb
  rcases hb with rfl | hb | rfl
  · decide
  · rcases h2 b hb with rfl | h
    · decide
    · rintro rfl
      exact absurd h.2 (by decide)
  · decide
theorem textF_bar (a : Flt) : ∀ b, b ∈ textF a → b ≠ 124 := by
  have h1 := textP_bar a.1
  have h2 := textP_bar a.2
  have hb : ∀ b, b ∈ byzT → b ≠ 124 := by decide
  have hc : ∀ b, b ∈ craT → b ≠ 124 := by decide
  have hn : ∀ b, b ∈ noneT → b ≠ 124 := by decide
  intro b hb0
  unfold textF at hb0
  split at hb0
  · split at hb0
    · exact hn b hb0
    · rcases List.mem_append.1 hb0 with h | h
      · exact hc b h
      · exact h2 b h
  · split at hb0
    · rcases List.mem_append.1 hb0 with h | h
      · exact hb b h
      · exact h1 b h
    · simp only [List.mem_append, List.mem_cons] at hb0
      rcases hb0 with (h | h) | rfl | h | h
      · exact hb b h
      · exact h1 b h
      · decide
      · exact hc b h
      · exact h2 b h
/-! ### Split -/
theorem index_free : ∀ (w t : List UInt8), (∀ b, b ∈ w → b ≠ 124) → index (w ++ (sepT ++ t)) sepT = (w.length : Int)
  | [], t, _ => by
    show index (32 :: 124 :: 32 :: t) sepT = 0
    unfold index
    rw [if_pos (by rfl)]
  | b :: w, t, h => by
    have ih := index_free w t fun x hx => h x (List.mem_cons_of_mem _ hx)
    rw [List.cons_append, index, if_neg, ih, if_neg (by simp)]
    · simp
    · intro hp
      have : sepT.isPrefixOf (b :: (w ++ (sepT ++ t))) = ((32 == b) && ([124, 32] : List UInt8).isPrefixOf (w ++ (sepT ++ t))) := rfl
      rw [this, Bool.and_eq_true] at hp
      cases w with
      | nil =>
        have : ([124, 32] : List UInt8).isPrefixOf ([] ++ (sepT ++ t)) = ((124 == (32 : UInt8)) && ([32] : List UInt8).isPrefixOf (124 :: 32 :: t)) := rfl
        rw [this] at hp
        exact absurd hp.2 (by simp)
      | cons c w =>
        have : ([124, 32] : List UInt8).isPrefixOf (c :: w ++ (sepT ++ t)) = ((124 == c) && ([32] : List UInt8).isPrefixOf (w ++ (sepT ++ t))) := rfl
        rw [this] at hp
        simp only [Bool.and_eq_true, beq_iff_eq] at hp
        exact h c (by simp) hp.2.1.symm
theorem index_none : ∀ (w : List UInt8), (∀ b, b ∈ w → b ≠ 124) → index w sepT = -1
  | [], _ => rfl
  | b :: w, h => by
    rw [index, if_neg, index_none w fun x hx => h x (List.mem_cons_of_mem _ hx)]
    · rfl
    · intro hp
      have : sepT.isPrefixOf (b :: w) = ((32 == b) && ([124, 32] : List UInt8).isPrefixOf w) := rfl
      rw [this, Bool.and_eq_true] at hp
      cases w with
      | nil => cases hp.2
      | cons c w =>
        have : ([124, 32] : List UInt8).isPrefixOf (c :: w) = ((124 == c) && ([32] : List UInt8).isPrefixOf w) := rfl
        rw [this] at hp
        simp only [Bool.and_eq_true, beq_iff_eq] at hp
        exact h c (by simp) hp.2.1.symm
theorem split_tail : ∀ (r : List (List UInt8)) (w : List UInt8), (∀ b, b ∈ w → b ≠ 124) → (∀ v, v ∈ r → ∀ b, b ∈ v → b ≠ 124) → Lib.split (w ++ joinTail sepT r) sepT = w :: r
  | [], w, hw, _ => by
    have e : w ++ joinTail sepT [] = w := by simp [joinTail]
    rw [e]
    unfold Lib.split
    rw [count_miss (index_none w hw)]
    rfl
  | v :: r, w, hw, h => by
    have e : w ++ joinTail sepT (v :: r) = w ++ (sepT ++ (v ++ joinTail sepT r)) := by rw [joinTail_cons]; simp
    have ih := split_tail r v (h v (List.mem_cons_self ..)) fun x hx => h x (List.mem_cons_of_mem _ hx)
    have hi := index_free w (v ++ joinTail sepT r) hw
    have hd : (w ++ (sepT ++ (v ++ joinTail sepT r))).drop (w.length + sepT.length) = v ++ joinTail sepT r := by
      rw [← List.append_assoc, List.drop_append_of_le_length (by simp), List.drop_eq_nil_of_le (by simp), List.nil_append]
    unfold Lib.split at ih ⊢
    rw [e, count_hit (by decide) hi, hd, Nat.add_comm 1, splitK, hi, if_neg (by simp), Int.toNat_natCast, Nat.add_zero, hd, ih]
    simp
theorem split_join (w : List UInt8) (r : List (List UInt8)) (h : ∀ v, v ∈ w :: r → ∀ b, b ∈ v → b ≠ 124) : Lib.split (join (w :: r) sepT) sepT = w :: r := by
  rw [join_cons]
  exact split_tail r w (h w (List.mem_cons_self ..)) fun v hv => h v (List.mem_cons_of_mem _ hv)
theorem split_fmt {m : List Flt} (hm : m ≠ []) : Lib.split (fmtF m) sepT = m.map textF := by
  cases m with
  | nil => exact absurd rfl hm
  | cons a r =>
    unfold fmtF
    rw [List.map_cons]
    refine split_join _ _ fun v hv => ?_
    rw [← List.map_cons] at hv
    obtain ⟨x, _, rfl⟩ := List.mem_map.1 hv
    exact textF_bar x
/-! ### the reference's split -/
theorem join_two (a b : List UInt8) (r : List (List UInt8)) (sep : List UInt8) : join (a :: b :: r) sep = a ++ sep ++ join (b :: r) sep := by
  rw [join_cons, join_cons, joinTail_cons]
  simp
/-! ### one fault out of a text, by the program -/
def partW (p s : List UInt8) : BitVec 16 × List UInt8 :=
  if p.isPrefixOf s = true then (match brk (s.drop p.length) with
    | none => (0#16, s)
    | some (t, r) => match okT t with
      | none => (0#16, s)
      | some x => (x, if r.head? = some 32 then r.tail else r)) else (0#16, s)
def parW (s : List UInt8) : Flt := ((partW byzT s).1, (partW craT (partW byzT s).2).1)
theorem brk_text (x : BitVec 16) (r : List UInt8) : brk (textP x ++ r) = some (textP x, r) := by
  obtain ⟨t, h1, h2, _⟩ := text_no x
  rw [h1, List.append_assoc]
  exact brk_app t r h2
theorem part_hit {p r : List UInt8} {x : BitVec 16} (hx : x.toNat < 4096) : partW p (p ++ (textP x ++ r)) = (x, if r.head? = some 32 then r.tail else r) := by
  unfold partW
  have e : p.isPrefixOf (p ++ (textP x ++ r)) = true := by
    rw [List.isPrefixOf_iff_prefix]; exact List.prefix_append _ _
  rw [if_pos e, List.drop_left, brk_text]
  dsimp only
  rw [okT_text, if_pos hx]
theorem par_text {a : Flt} (ha : rdF a) : parW (textF a) = a := by
  obtain ⟨u, v⟩ := a
  obtain ⟨h1, h2⟩ := ha
  dsimp only at h1 h2
  unfold textF parW
  dsimp only
  have hcb : ∀ t, partW byzT (craT ++ t) = (0#16, craT ++ t) := fun t => by
    unfold partW
    rw [if_neg]
    show ¬ (([98, 121, 122, 32] : List UInt8).isPrefixOf (99 :: 114 :: 97 :: 115 :: 104 :: 32 :: t)) = true
    simp [List.isPrefixOf]
  by_cases hu : u = 0#16
  · rw [if_pos hu]
    by_cases hv : v = 0#16
    · rw [if_pos hv, hu, hv]
      decide
    · have := part_hit (p := craT) (r := []) h2
      rw [List.append_nil] at this
      rw [if_neg hv, hcb, hu, this]
  · rw [if_neg hu]
    by_cases hv : v = 0#16
    · have := part_hit (p := byzT) (r := []) h1
      rw [List.append_nil] at this
      rw [if_pos hv, this, hv]
      rfl
    · have e1 := part_hit (p := byzT) (r := 32 :: (craT ++ textP v)) h1
      have e2 := part_hit (p := craT) (r := []) h2
      rw [List.append_nil] at e2
      rw [if_neg hv, List.append_assoc, e1]
      dsimp only
      rw [if_pos (by rfl)]
      show (u, (partW craT (craT ++ textP v)).1) = (u, v)
      rw [e2]
theorem par_map {m : List Flt} (h : ∀ a, a ∈ m → rdF a) : (m.map textF).map parW = m := by
  rw [List.map_map]
  conv => rhs; rw [← List.map_id m]
  exact List.map_congr_left fun a ha => par_text (h a ha)
/-! ### by the reference -/
end Go.Abs
namespace Go.Abs
/-- the servers of a set -/
def mems (x : BitVec 16) : List Nat := (List.range 16).filter fun i => decide (x.toNat / 2 ^ i % 2 = 1)
theorem bit_eq (x : BitVec 16) (n : Nat) : (((x >>> n) &&& (BitVec.ofInt 16 1)) == (BitVec.ofInt 16 1)) = decide (x.toNat / 2 ^ n % 2 = 1) := by
  have h := bit_toNat x n
  rw [Bool.eq_iff_iff, beq_iff_eq, decide_eq_true_eq, ← h]
  constructor
  · intro e; rw [e]; rfl
  · intro e; exact BitVec.eq_of_toNat_eq e
theorem f78_eq (x : BitVec 16) (n : Nat) (h : n < 16) : f78 x (n : Int) = some (decide (x.toNat / 2 ^ n % 2 = 1)) := by
  unfold f78
  rw [chk_pos (by intro; omega), Int.toNat_natCast, bit_eq]
  have h1 : (decide ((n : Int) ≥ 0)) = true := by simp
  have h2 : (decide ((n : Int) < 16)) = true := by simp; omega
  rw [h1, h2]
  rfl
theorem f53_L0_eq (x : BitVec 16) (K : List Int → Option (List Int)) : ∀ (c k n : Nat) (l : List Int), n + c = 16 → c < k → l.length ≤ n →
    f53_L0 x K k (n, l) = K (l ++ ((List.range' n c).filter fun i => decide (x.toNat / 2 ^ i % 2 = 1)).map fun i : Nat => (i : Int))
  | 0, k, n, l, hn, hk, hl => by
    obtain ⟨k, rfl⟩ : ∃ q, k = q + 1 := ⟨k - 1, by omega⟩
    rw [f53_L0.eq_2, if_neg (by simp; omega)]
    simp
  | c + 1, k, n, l, hn, hk, hl => by
    obtain ⟨k, rfl⟩ : ∃ q, k = q + 1 := ⟨k - 1, by omega⟩
    rw [f53_L0.eq_2, if_pos (by simp; omega), jn_eq, f78_eq x n (by omega), some_bind, List.range'_succ, List.filter_cons]
    by_cases hb : x.toNat / 2 ^ n % 2 = 1
    · rw [if_pos (decide_eq_true hb), chk_pos (by omega), if_pos (decide_eq_true hb)]
      dsimp only
      rw [chk_pos (by omega), f53_L0_eq x K c k (n + 1) _ (by omega) (by omega) (by simp; omega)]
      simp
    · rw [if_neg (by simpa using hb), if_neg (by simpa using hb)]
      dsimp only
      rw [chk_pos (by omega), f53_L0_eq x K c k (n + 1) _ (by omega) (by omega) (by omega)]
theorem f53_eq (x : BitVec 16) : f53 x = some ((mems x).map fun i : Nat => (i : Int)) := by
  unfold f53
  rw [jn_eq, f53_L0_eq x _ 16 FUEL 0 [] rfl (by unfold FUEL; omega) (Nat.zero_le _), List.nil_append, mems, List.range_eq_range']
theorem mems_bsum (x : Nat) : ∀ c n, ((List.range' n c).filter fun i => decide (x / 2 ^ i % 2 = 1)).length = bsum x n c
  | 0, n => rfl
  | c + 1, n => by
    rw [List.range'_succ, List.filter_cons, bsum]
    have hb : x / 2 ^ n % 2 < 2 := Nat.mod_lt _ (by decide)
    split <;> rename_i h
    · have h : x / 2 ^ n % 2 = 1 := by simpa using h
      rw [List.length_cons, mems_bsum x c (n + 1), h]; omega
    · have h : ¬ x / 2 ^ n % 2 = 1 := by simpa using h
      rw [mems_bsum x c (n + 1)]; omega
theorem mems_len (x : BitVec 16) : (mems x).length = sz x := by
  unfold mems
  rw [List.range_eq_range', mems_bsum]
  rfl
theorem f24_eq (x : BitVec 16) : f24 x = some (sz x : Int) := by
  unfold f24
  rw [f53_eq, some_bind, List.length_map, mems_len]
theorem f74_eq (a b : BitVec 16) : ∃ c, f74 a b = some c ∧ (c = 0 ↔ a = b) ∧ (c < 0 ↔ key a < key b) := by
  unfold f74
  rw [f24_eq, f24_eq]
  by_cases h : a = b
  · subst h
    rw [if_pos (by simp)]
    exact ⟨0, rfl, by simp, by simp⟩
  · rw [if_neg (by simpa using h)]
    have hn : a.toNat ≠ b.toNat := fun e => h (BitVec.eq_of_toNat_eq e)
    have ha := a.isLt
    have hb := b.isLt
    rw [some_bind, some_bind]
    unfold key
    by_cases h1 : sz a < sz b
    · refine ⟨-1, ?_, ?_, ?_⟩
      · simp [optc, chk, h1]
      · simp [h]
      · simp; omega
    · by_cases h2 : sz a = sz b
      · by_cases h3 : a.toNat < b.toNat
        · exact ⟨-1, by simp [optc, chk, h2, h3], by simp [h], by simp; omega⟩
        · exact ⟨1, by simp [optc, chk, h2, h3], by simp [h], by simp; omega⟩
      · exact ⟨1, by simp [optc, chk, h1]; omega, by simp [h], by simp; omega⟩
theorem f45_eq (a b : Flt) : ∃ c, f45 a.1 a.2 b.1 b.2 = some c ∧ (c < 0 ↔ keyF a < keyF b) := by
  obtain ⟨c, h1, h2, h3⟩ := f74_eq a.1 b.1
  obtain ⟨d, h4, h5, h6⟩ := f74_eq a.2 b.2
  have k1 := key_lt a.1
  have k2 := key_lt a.2
  have k3 := key_lt b.1
  have k4 := key_lt b.2
  unfold f45 keyF
  rw [h1, h4, some_bind, some_bind]
  by_cases hc : c = 0
  · refine ⟨d, by simp [hc], ?_⟩
    rw [h2.1 hc, h6]; omega
  · refine ⟨c, by simp [hc], ?_⟩
    have : key a.1 ≠ key b.1 := fun e => hc (h2.2 (key_inj' e))
    rw [h3]; omega
theorem f43_lt (a b : Flt) : ∃ c, f43 a.1 a.2 b.1 b.2 = some c ∧ (c < 0 ↔ keyF a < keyF b) :=
  ⟨_, f43_eq' a b, by have := cmpF_lt a b; simpa using this⟩
theorem f16_eq (b a : Flt) : f16 b.1 b.2 a.1 a.2 = some (cov b a) := by
  unfold f16 f46 cov sub ftyS
  by_cases h : (a.1 &&& ~~~b.1) = 0#16
  · simp [h, optc_t]
  · have e : (a.1 &&& ~~~b.1 == 0#16) = false := by simpa using h
    simp [e, optc_f]
theorem f17_eq (b a : Flt) : f17 b.1 b.2 a.1 a.2 = some (cov b a) := by
  unfold f17 f47 f23 cov sub ftyS
  by_cases h : (a.1 &&& ~~~b.1) = 0#16
  · simp [h, optc_t]
  · have e : (a.1 &&& ~~~b.1 == 0#16) = false := by simpa using h
    simp [e, optc_f]
end Go.Abs
namespace Go.Abs
theorem and_hi (n : Nat) (h : n < 65536) : (n &&& 61440 = 0) ↔ n < 4096 := by
  have e : (n &&& 61440) >>> 12 = n / 4096 := by
    rw [Nat.shiftRight_and_distrib, Nat.shiftRight_eq_div_pow]
    show (n / 4096) &&& 15 = n / 4096
    rw [show (15 : Nat) = 2 ^ 4 - 1 from rfl, Nat.and_two_pow_sub_one_eq_mod]
    omega
  constructor
  · intro h0
    rw [h0] at e
    simp at e
    omega
  · intro hn
    apply Nat.eq_of_testBit_eq
    intro i
    rw [Nat.testBit_and, Nat.zero_testBit]
    by_cases hi : i < 12
    · have : Nat.testBit 61440 i = false := by
        rw [show (61440 : Nat) = 2 ^ 12 * 15 from rfl, Nat.testBit_two_pow_mul]
        simp; omega
      rw [this, Bool.and_false]
    · have : n.testBit i = false := Nat.testBit_lt_two_pow (Nat.lt_of_lt_of_le hn (Nat.pow_le_pow_right (n := 2) (by decide) (by omega : 12 ≤ i)))
      rw [this, Bool.false_and]
theorem outside_eq (x : BitVec 16) : ((x &&& (BitVec.ofInt 16 61440)) == (BitVec.ofInt 16 0)) = decide (x.toNat < 4096) := by
  have h := and_hi x.toNat x.isLt
  rw [Bool.eq_iff_iff, beq_iff_eq, decide_eq_true_eq, ← h]
  constructor
  · intro e
    have := congrArg BitVec.toNat e
    simpa using this
  · intro e
    apply BitVec.eq_of_toNat_eq
    simpa using e
/-- the error of a fault -/
def errF (a : Flt) : Int := if (ftyS a).toNat < 4096 then (if a.1 &&& a.2 = 0#16 then 0 else 1) else 7
theorem f42_eq (a : Flt) : f42 a.1 a.2 = some (errF a) := by
  have e : ((ftyS a &&& ~~~(BitVec.ofInt 16 4095)) == (BitVec.ofInt 16 0)) = decide ((ftyS a).toNat < 4096) := outside_eq (ftyS a)
  unfold f42 f46 errF
  rw [some_bind]
  change (if (!((ftyS a &&& ~~~(BitVec.ofInt 16 4095)) == (BitVec.ofInt 16 0))) = true then _ else _) = _
  rw [e]
  by_cases h : (ftyS a).toNat < 4096
  · rw [decide_eq_true h, if_neg (by simp), if_pos h]
    by_cases h2 : a.1 &&& a.2 = 0#16
    · rw [if_pos h2, if_neg (by simp [h2])]
    · rw [if_neg h2, if_pos (by simpa using h2)]
  · rw [decide_eq_false h, if_pos (by simp), if_neg h]
theorem f44_eq (a : Flt) : f44 a.1 a.2 = some (errF a) := by
  unfold f44 f23 errF
  rw [some_bind]
  change (if (decide ((ftyS a).toNat ≥ 4096)) = true then _ else _) = _
  by_cases h : (ftyS a).toNat < 4096
  · rw [if_neg (by simpa using h), if_pos h]
    by_cases h2 : a.1 &&& a.2 = 0#16
    · rw [if_pos h2, if_neg (by simp [h2])]
    · rw [if_neg h2, if_pos (by simpa using h2)]
  · rw [if_pos (by simpa using h), if_neg h]
/-- a fault that covers an earlier one, or is covered by it -/
def anyC (x : List Flt) (n : Nat) : Bool := (x.take n).any fun y => cov (x.getD n default) y || cov y (x.getD n default)
def scanF (x : List Flt) : Nat → Nat → Option Int
  | 0, _ => none
  | c + 1, n => if errF (x.getD n default) ≠ 0 then some (errF (x.getD n default)) else if anyC x n = true then some 5
    else if 0 < n ∧ ¬ keyF (x.getD (n - 1) default) < keyF (x.getD n default) then some 1 else scanF x c (n + 1)
def orE (e : Option Int) (K : Unit → Option Int) : Option Int := match e with
  | some e => some e
  | none => K ()
theorem getD_take {α : Type} (x : List α) (n m : Nat) (d : α) (h : m < n) : (x.take n).getD m d = x.getD m d := by
  simp [List.getD_eq_getElem?_getD, h]
theorem f13_L1_eq (x : List Flt) (n : Nat) (K : Unit → Option Int) (hn : n < x.length) (hx : x.length ≤ 65536) : f13_L1 x n K FUEL 0 = if anyC x n = true then some 5 else K () := by
  have hl : (x.take n).length = n := by simp; omega
  refine any_up (f13_L1 x n K) (x.take n) default (fun y => cov (x.getD n default) y || cov y (x.getD n default)) (some 5) (K ()) (fun k m hm => ?_) (fun k => ?_) FUEL (by rw [hl]; exact fuel_lt (by omega))
  · rw [hl] at hm
    rw [f13_L1.eq_2, if_pos (by simp; omega), chk_pos (by omega), f16_eq, some_bind]
    cases cov (x.getD n default) ((x.take n).getD m default) with
    | true =>
      rw [show ((true == false)) = false from rfl, optc_f, Bool.true_or, Bool.true_or, if_pos rfl, if_pos rfl]
    | false =>
      rw [show ((false == false) = true) from rfl, optc_t, f16_eq, some_bind, chk_pos (by omega)]
  · rw [hl, f13_L1.eq_2, if_neg (by simp)]
theorem f15_L1_eq (x : List Flt) (n : Nat) (K : Unit → Option Int) (hn : n < x.length) (hx : x.length ≤ 65536) : f15_L1 x n K FUEL 0 = if anyC x n = true then some 5 else K () := by
  have hl : (x.take n).length = n := by simp; omega
  refine any_up (f15_L1 x n K) (x.take n) default (fun y => cov (x.getD n default) y || cov y (x.getD n default)) (some 5) (K ()) (fun k m hm => ?_) (fun k => ?_) FUEL (by rw [hl]; exact fuel_lt (by omega))
  · rw [hl] at hm
    rw [f15_L1.eq_2, if_pos (by simp; omega), f17_eq, some_bind, getD_take x n m default hm]
    cases cov (x.getD n default) (x.getD m default) with
    | true =>
      rw [show ((true == false)) = false from rfl, optc_f, chk_pos (by omega), chk_pos (by omega), chk_pos (by intro h; cases h), chk_pos (by intro h; cases h), Bool.true_or, Bool.true_or, if_pos rfl, if_pos rfl]
    | false =>
      rw [show ((false == false)) = true from rfl, optc_t, f17_eq, some_bind, chk_pos (by omega), chk_pos (by omega), chk_pos (by intro; omega), chk_pos (by intro; omega), chk_pos (by omega)]
  · rw [hl, f15_L1.eq_2, if_neg (by simp)]
theorem f13_L0_eq (x : List Flt) (K : Unit → Option Int) (hx : x.length ≤ 65536) : ∀ (c k n : Nat), n + c = x.length → c < k → f13_L0 x K k n = orE (scanF x c n) K
  | 0, k, n, hn, hk => by
    obtain ⟨k, rfl⟩ : ∃ q, k = q + 1 := ⟨k - 1, by omega⟩
    rw [f13_L0.eq_2, if_neg (by simp; omega)]
    rfl
  | c + 1, k, n, hn, hk => by
    obtain ⟨k, rfl⟩ : ∃ q, k = q + 1 := ⟨k - 1, by omega⟩
    have ih := f13_L0_eq x K hx c k (n + 1) (by omega) (by omega)
    rw [f13_L0.eq_2, if_pos (by simp; omega), chk_pos (by omega), f42_eq, some_bind]
    unfold scanF
    by_cases he : errF (x.getD n default) = 0
    · rw [if_neg (by rw [he]; decide), if_neg (fun h => h he), jn_eq, chk_pos (by omega), f13_L1_eq x n _ (by omega) hx]
      by_cases ha : anyC x n = true
      · rw [if_pos ha, if_pos ha]; rfl
      · rw [if_neg ha, if_neg ha]
        have hn1 : ((n : Int) - 1).toNat = n - 1 := by omega
        rw [hn1]
        by_cases h0 : 0 < n
        · have h0' : ((decide ((n : Int) > 0)) == true) = true := by simp; omega
          obtain ⟨r, h1, h2⟩ := f43_lt (x.getD (n - 1) default) (x.getD n default)
          rw [h0', optc_t, h1, some_bind, chk_pos (by intro; omega), chk_pos (by intro; omega), chk_pos (by omega), ih]
          by_cases hk2 : keyF (x.getD (n - 1) default) < keyF (x.getD n default)
          · rw [if_neg (by have := h2.2 hk2; simp; omega), if_neg (fun h => h.2 hk2)]
          · rw [if_pos (by have : ¬ r < 0 := fun h => hk2 (h2.1 h); simp; omega), if_pos ⟨h0, hk2⟩]; rfl
        · have h0' : ((decide ((n : Int) > 0)) == true) = false := by simp; omega
          rw [h0', optc_f, chk_pos (by intro h; cases h), chk_pos (by intro h; cases h), if_neg (by simp; omega), if_neg (by omega), chk_pos (by omega), ih]
    · rw [if_pos (by simpa using he), if_pos he]; rfl
theorem f15_L0_eq (x : List Flt) (K : Unit → Option Int) (hx : x.length ≤ 65536) : ∀ (c k n : Nat), n + c = x.length → c < k → f15_L0 x K k n = orE (scanF x c n) K
  | 0, k, n, hn, hk => by
    obtain ⟨k, rfl⟩ : ∃ q, k = q + 1 := ⟨k - 1, by omega⟩
    rw [f15_L0.eq_2, if_neg (by simp; omega)]
    rfl
  | c + 1, k, n, hn, hk => by
    obtain ⟨k, rfl⟩ : ∃ q, k = q + 1 := ⟨k - 1, by omega⟩
    have ih := f15_L0_eq x K hx c k (n + 1) (by omega) (by omega)
    rw [f15_L0.eq_2, if_pos (by simp; omega), f44_eq, some_bind, chk_pos (by omega)]
    unfold scanF
    by_cases he : errF (x.getD n default) = 0
    · rw [if_neg (by rw [he]; decide), if_neg (fun h => h he), jn_eq, f15_L1_eq x n _ (by omega) hx]
      by_cases ha : anyC x n = true
      · rw [if_pos ha, if_pos ha]; rfl
      · rw [if_neg ha, if_neg ha]
        have hn1 : ((n : Int) - 1).toNat = n - 1 := by omega
        rw [hn1]
        by_cases h0 : 0 < n
        · have h0' : ((decide ((n : Int) > 0)) == true) = true := by simp; omega
          obtain ⟨r, h1, h2⟩ := f45_eq (x.getD (n - 1) default) (x.getD n default)
          rw [h0', optc_t, h1, some_bind, chk_pos (by intro; omega), chk_pos (by intro; omega), chk_pos (by intro; omega), chk_pos (by omega), ih]
          by_cases hk2 : keyF (x.getD (n - 1) default) < keyF (x.getD n default)
          · rw [if_neg (by have := h2.2 hk2; simp; omega), if_neg (fun h => h.2 hk2)]
          · rw [if_pos (by have : ¬ r < 0 := fun h => hk2 (h2.1 h); simp; omega), if_pos ⟨h0, hk2⟩]; rfl
        · have h0' : ((decide ((n : Int) > 0)) == true) = false := by simp; omega
          rw [h0', optc_f, chk_pos (by intro h; cases h), chk_pos (by intro h; cases h), chk_pos (by intro h; cases h), if_neg (by simp; omega), if_neg (by omega), chk_pos (by omega), ih]
    · rw [if_pos (by simpa using he), if_pos he]; rfl
/-- the error of a model -/
def validF (x : List Flt) : Int := if x.length = 0 then 9 else if x.length > 100 then 3 else (scanF x x.length 0).getD 0
theorem f13_eq (x : List Flt) : f13 x = some (validF x) := by
  unfold f13 validF
  by_cases h0 : x.length = 0
  · rw [if_pos (by simpa using h0), if_pos h0]
  · rw [if_neg (by simpa using h0), if_neg h0]
    by_cases h1 : x.length > 100
    · rw [if_pos (by simp; omega), if_pos h1]
    · rw [if_neg (by simp; omega), if_neg h1, jn_eq, f13_L0_eq x _ (by omega) x.length FUEL 0 (by omega) (fuel_lt (by omega))]
      cases scanF x x.length 0 <;> rfl
theorem f15_eq (x : List Flt) : f15 x = some (validF x) := by
  unfold f15 validF
  by_cases h0 : x.length = 0
  · rw [if_pos (by simpa using h0), if_pos h0]
  · rw [if_neg (by simpa using h0), if_neg h0]
    by_cases h1 : x.length > 100
    · rw [if_pos (by simp; omega), if_pos h1]
    · rw [if_neg (by simp; omega), if_neg h1, jn_eq, f15_L0_eq x _ (by omega) x.length FUEL 0 (by omega) (fuel_lt (by omega))]
      cases scanF x x.length 0 <;> rfl
theorem f14_eq (x : List Flt) (h : x.length ≤ 65536) : f14 x = some x := by
  unfold f14
  rw [abc_eq, chk_pos (by omega)]
  · rfl
  · intro h0
    rw [List.eq_nil_of_length_eq_zero h0]
    rfl
end Go.Abs
namespace Go.Abs
open Go Go.Lib
/-- texts that the kernel can reckon -/
def itc (i : Nat) : List UInt8 := if i < 10 then [UInt8.ofNat (48 + i)] else [49, UInt8.ofNat (48 + i % 10)]
theorem textP_c (x : BitVec 16) : textP x = txtW ((memP x.toNat 16).map itc) := by
  unfold textP
  congr 1
  exact List.map_congr_left fun i hi => itw_eq i (memP_small hi)
theorem h83 (x : BitVec 16) : f83 x = some (txtW ((memP x.toNat 16).map itc)) := by rw [f83_eq, textP_c]
theorem h35 : f35 [(1#16, 2#16)] = some cs2 := by
  have h61 : f61 1#16 2#16 = some cs2 := by
    unfold f61
    rw [h83, h83]
    refine Eq.trans (b := some cs2) ?_ rfl
    kernel_rfl
  have hf : FUEL = (FUEL - 2) + 1 + 1 := by unfold FUEL; rfl
  unfold f35
  rw [jn_eq, hf, f35_L0.eq_2, if_pos (by rfl)]
  show (chk _ <| (f61 1#16 2#16).bind _) = _
  rw [h61]
  refine Eq.trans (b := some cs2) ?_ rfl
  kernel_rfl
theorem h27 : f27 [(BitVec.ofInt 16 3, BitVec.ofInt 16 0)] [(BitVec.ofInt 16 1, BitVec.ofInt 16 6)] = some (0, [(1#16, 2#16)]) := by kernel_rfl
theorem h20 : f20 3 1 1 = some ([(1#16, 2#16), (1#16, 4#16), (2#16, 1#16), (2#16, 4#16), (4#16, 1#16), (4#16, 2#16)], 0) := by kernel_rfl
theorem f12_true : f12 = some true := by
  unfold f12
  rw [h20, some_bind, h27, some_bind]
  dsimp only
  rw [h35]
  refine Eq.trans (b := some true) ?_ rfl
  kernel_rfl
end Go.Abs
namespace Go.Abs
open Go Go.Lib
theorem ixB_cons (b : UInt8) (l : List UInt8) (c : UInt8) : ixB (b :: l) c = if b == c then 0 else if ixB l c == -1 then -1 else ixB l c + 1 := by
  rw [← ixB_eq, ← ixB_eq]; rfl
theorem brk_none : ∀ (s : List UInt8), brk s = none → ixB s 125 = -1
  | [], _ => rfl
  | b :: t, h => by
    rw [brk] at h
    by_cases e : b = 125
    · rw [if_pos e] at h; cases h
    · rw [if_neg e, Option.map_eq_none_iff] at h
      rw [ixB_cons, if_neg (by simpa using e), brk_none t h]
      rfl
theorem brk_some : ∀ (s t r : List UInt8), brk s = some (t, r) → ∃ n : Nat, ixB s 125 = (n : Int) ∧ n < s.length ∧ t = s.take (n + 1) ∧ r = s.drop (n + 1)
  | [], _, _, h => by cases h
  | b :: s, t, r, h => by
    rw [brk] at h
    by_cases e : b = 125
    · rw [if_pos e] at h
      cases h
      exact ⟨0, by rw [ixB_cons, if_pos (by simpa using e)]; rfl, by simp, by simp [e], by simp⟩
    · rw [if_neg e] at h
      obtain ⟨⟨t', r'⟩, h1, h2⟩ := Option.map_eq_some_iff.1 h
      cases h2
      obtain ⟨n, h3, h4, h5, h6⟩ := brk_some s t' r' h1
      refine ⟨n + 1, ?_, by simp; omega, by rw [h5]; rfl, by rw [h6]; rfl⟩
      rw [ixB_cons, if_neg (by simpa using e), h3, if_neg (by simp)]
      rfl
theorem okT_nil : okT [] = none := by
  cases h : okT [] with
  | none => rfl
  | some x =>
    have := (okT_some h).1
    unfold textP txtW at this
    cases this
/-! ### the program -/
theorem f149_eq (x p : List UInt8) (_hx : x.length ≤ 9223372036854775807) : f149 x p = some (p.isPrefixOf x) := by
  unfold f149
  rw [chk_pos (by
    intro h
    simp at h
    omega)]
  congr 1
  rw [Bool.eq_iff_iff, Bool.and_eq_true, decide_eq_true_eq, beq_iff_eq, List.isPrefixOf_iff_prefix, List.prefix_iff_eq_take]
  constructor
  · intro h; exact h.2.symm
  · intro h
    have := congrArg List.length h
    rw [List.length_take] at this
    exact ⟨by omega, h.symm⟩
theorem pre_len {x p : List UInt8} (h : p.isPrefixOf x = true) : p.length ≤ x.length := by
  rw [List.isPrefixOf_iff_prefix] at h
  exact h.length_le
theorem f95_eq (x p : List UInt8) (hx : x.length ≤ 1000000) : f95 x p = some (if p.isPrefixOf x = true then (x.drop p.length, true) else (x, false)) := by
  unfold f95 f121
  rw [f149_eq x p (by omega), some_bind]
  by_cases h : p.isPrefixOf x = true
  · have := pre_len h
    rw [if_neg (by rw [h]; simp), chk_pos (by omega), some_bind, if_pos h]
  · have h' : p.isPrefixOf x = false := Bool.eq_false_iff.2 h
    rw [if_pos (by rw [h']; rfl), some_bind, if_neg h]
theorem f98_eq (x : List UInt8) (hx : x.length ≤ 1000000) : f98 x [32] = some (if x.head? = some 32 then x.tail else x) := by
  unfold f98 f126
  rw [f149_eq x _ (by omega), some_bind]
  cases x with
  | nil => rfl
  | cons b x =>
    have e : ([32] : List UInt8).isPrefixOf (b :: x) = (32 == b) := by
      show ((32 == b) && ([] : List UInt8).isPrefixOf x) = _
      simp
    rw [e]
    by_cases h : b = 32
    · rw [if_pos (by simp [h]), chk_pos (by simp; omega), some_bind, if_pos (by simp [h])]
      rfl
    · rw [if_neg (by simp [Ne.symm h]), some_bind, if_neg (by simpa using h)]
theorem f70_eq (s w : List UInt8) (hs : s.length ≤ 1000000) (hw : w.length ≤ 100) : f70 s w = some (partW (w ++ [32]) s) := by
  have h125 : (125 : Int).toNat.toUInt8 = 125 := rfl
  unfold f70 partW
  rw [f95_eq s _ hs, some_bind, chk_pos (by simp; omega)]
  by_cases h : (w ++ [32]).isPrefixOf s = true
  · have hd : (s.drop (w ++ [32]).length).length ≤ 1000000 := by rw [List.length_drop]; omega
    rw [if_pos h, if_pos h, if_neg (by simp)]
    dsimp only
    generalize s.drop (w ++ [32]).length = q at hd ⊢
    unfold f96 ixbO
    rw [some_bind, h125]
    cases hb : brk q with
    | none =>
      rw [brk_none q hb, chk_pos (by omega), show ((-1 : Int) + 1).toNat = 0 from rfl, List.take_zero, f97_eq [] (by simp), okT_nil, some_bind, chk_pos (by omega)]
      rfl
    | some z =>
      obtain ⟨t, r⟩ := z
      obtain ⟨n, h1, h2, h3, h4⟩ := brk_some q t r hb
      have hlt : t.length ≤ q.length := by rw [h3, List.length_take]; omega
      have hlr : r.length + (n + 1) = q.length := by rw [h4, List.length_drop]; omega
      rw [h1, chk_pos (by omega), show ((n : Int) + 1).toNat = n + 1 from by omega, ← h3, ← h4, f97_eq t (by omega), some_bind, chk_pos (by omega)]
      dsimp only
      cases okT t with
      | none => rfl
      | some x =>
        dsimp only
        rw [if_neg (by simp), f98_eq r (by omega), some_bind, chk_pos (by omega)]
  · rw [if_neg h, if_neg h, if_pos (by rfl)]; rfl
theorem textF_len (a : Flt) : (textF a).length ≤ 120 := by
  have h1 := textP_len a.1
  have h2 := textP_len a.2
  have e1 : byzT.length = 4 := rfl
  have e2 : craT.length = 6 := rfl
  have e3 : noneT.length = 4 := rfl
  unfold textF
  split
  · split
    · omega
    · rw [List.length_append]; omega
  · split
    · rw [List.length_append]; omega
    · simp only [List.length_append, List.length_cons]; omega
theorem cs1_cra : cs1 = craT := rfl
theorem f61_eq (u v : BitVec 16) : f61 u v = some (textF (u, v)) := by
  have h1 := textP_len u
  have h2 := textP_len v
  have hz : (BitVec.ofInt 16 0) = 0#16 := rfl
  have e1 : byzT.length = 4 := rfl
  have e2 : craT.length = 6 := rfl
  unfold f61 textF
  rw [jn_eq, hz, cs1_cra]
  dsimp only
  by_cases hu : u = 0#16
  · rw [if_neg (by simp [hu]), if_pos hu, jn_eq]
    by_cases hv : v = 0#16
    · rw [if_neg (by simp [hv]), if_pos hv]
      rfl
    · rw [if_pos (by simpa using hv), if_neg hv, f83_eq, some_bind, chk_pos (by omega), chk_pos (by simp)]
      dsimp only
      rw [if_neg (by simp)]
      unfold f62 joinP
      rw [List.nil_append, join_one, if_pos (by rw [List.length_append]; simp; omega), some_bind]
  · rw [if_pos (by simpa using hu), if_neg hu, f83_eq, some_bind, chk_pos (by simp; omega)]
    rw [jn_eq]
    by_cases hv : v = 0#16
    · rw [if_neg (by simp [hv]), if_pos hv]
      dsimp only
      rw [if_neg (by simp)]
      unfold f62 joinP
      rw [join_one, if_pos (by simp; omega), some_bind]
      rfl
    · rw [if_pos (by simpa using hv), if_neg hv, f83_eq, some_bind, chk_pos (by omega), chk_pos (by simp)]
      dsimp only
      rw [if_neg (by simp)]
      unfold f62 joinP
      have ej : join ([([98, 121, 122, 32] : List UInt8) ++ textP u] ++ [craT ++ textP v]) [32] = byzT ++ textP u ++ 32 :: (craT ++ textP v) := by
        show join ((byzT ++ textP u) :: [craT ++ textP v]) [32] = _
        rw [join_two, join_one]
        simp
      have ej2 : join ([([98, 121, 122, 32] : List UInt8) ++ textP u] ++ [craT ++ textP v]) [32] = byzT ++ textP u ++ 32 :: (craT ++ textP v) := ej
      rw [ej2, if_pos (by simp only [List.length_append, List.length_cons, List.length_nil]; omega), some_bind]
theorem ftl_len : ∀ (m : List Flt), (joinTail sepT (m.map textF)).length ≤ 123 * m.length
  | [] => by simp [joinTail]
  | a :: m => by
    have h1 := textF_len a
    have h2 := ftl_len m
    have e3 : sepT.length = 3 := rfl
    rw [List.map_cons, joinTail_cons, List.length_append, List.length_append, List.length_cons]
    omega
theorem fmtF_len (m : List Flt) : (fmtF m).length ≤ 123 * m.length := by
  unfold fmtF
  cases m with
  | nil => simp [join_nil]
  | cons a m =>
    have h1 := textF_len a
    have h2 := ftl_len m
    rw [List.map_cons, join_cons, List.length_append, List.length_cons]
    omega
theorem f35_eq (m : List Flt) (hm : m.length ≤ 1000000) : f35 m = some (fmtF m) := by
  unfold f35
  rw [jn_eq]
  have h := fold_up (f35_L0 m (fun (l5 : List (List UInt8)) => (f62 l5 ([32, 124, 32] : List UInt8)).bind fun (r6 : List UInt8) => some r6)) m (default : Flt) (fun n l => l.length ≤ n) (fun out v => out ++ [textF v]) _ (fun k n l hn hi => by
    rw [f35_L0.eq_2, ifd_pos (by omega), chk_pos (by omega), f61_eq, some_bind, chk_pos (by omega), chk_pos (by omega)]) (fun n l hn hi => by simp; omega) (fun k l hi => by
    rw [f35_L0.eq_2, ifd_neg (by omega)]) m.length FUEL 0 [] (by omega) (fuel_lt (by omega)) (by simp)
  rw [List.drop_zero, map_fold8, List.nil_append] at h
  refine Eq.trans h ?_
  have hl := fmtF_len m
  unfold fmtF sepT at hl ⊢
  unfold f62 joinP
  rw [if_pos (by rw [List.length_map]; omega), some_bind]
def finV (m : List Flt) : Int × List Flt := if validF m ≠ 0 then (validF m, []) else (0, m)
theorem fin_eq (m : List Flt) : (if (validF m != 0) = true then some (validF m, []) else some ((0 : Int), m)) = some (finV m) := by
  unfold finV
  by_cases h : validF m = 0
  · rw [if_neg (by simp [h]), if_neg (by simp [h])]
  · rw [if_pos (by simpa using h), if_pos h]
theorem piece_len : ∀ (k : Nat) (s : List UInt8), (∀ w, w ∈ splitK sepT 0 k s → w.length ≤ s.length) ∧ (splitK sepT 0 k s).length ≤ k + 1
  | 0, s => ⟨by intro w hw; rw [splitK, List.mem_singleton] at hw; rw [hw]; exact Nat.le_refl _, by simp [splitK]⟩
  | k + 1, s => by
    rw [splitK]
    split
    · exact ⟨by intro w hw; rw [List.mem_singleton] at hw; rw [hw]; exact Nat.le_refl _, by simp⟩
    · have ih := piece_len k (s.drop ((index s sepT).toNat + sepT.length))
      refine ⟨fun w hw => ?_, by simp; exact ih.2⟩
      rcases List.mem_cons.1 hw with rfl | hw
      · rw [List.length_take]; omega
      · have := ih.1 w hw
        rw [List.length_drop] at this
        omega
theorem f40_eq (s : List UInt8) (hs : s.length ≤ 10000) : f40 s = some (match (if fmtF ((Lib.split s sepT).map parW) = s then some ((Lib.split s sepT).map parW) else none) with | none => (2, []) | some m => finV m) := by
  have hc := count_le s sepT
  obtain ⟨hp1, hp2⟩ := piece_len (count s sepT) s
  have hp3 : ∀ w, w ∈ Lib.split s sepT → w.length ≤ s.length := hp1
  have hp4 : (Lib.split s sepT).length ≤ count s sepT + 1 := hp2
  unfold f40
  rw [jn_eq]
  unfold f69 splitMO
  have e0 : Lib.split s [32, 124, 32] = Lib.split s sepT := rfl
  rw [e0, if_pos ⟨by omega, by simp⟩, some_bind]
  generalize Lib.split s sepT = ws at hp3 hp4 ⊢
  have h := fold_up (f40_L0 (fun (l7 : List (BitVec 16 × BitVec 16)) => (f35 l7).bind fun (r8 : List UInt8) => if (!(r8 == s)) = true then some ((2 : Int), []) else (f13 l7).bind fun (r9 : Int) => if (r9 != (0 : Int)) = true then some (r9, []) else some ((0 : Int), l7)) ws) ws [] (fun n l => l.length ≤ n) (fun out w => out ++ [parW w]) _ (fun k n l hn hi => by
    have hw := hp3 _ (getD_mem8 ws n [] hn)
    have h1 := f70_eq (ws.getD n []) [98, 121, 122] (by omega) (by simp)
    have hs2 : (partW byzT (ws.getD n [])).2.length ≤ 1000000 := by
      unfold partW
      split
      · split
        · dsimp only; omega
        · rename_i t r hb
          obtain ⟨q, _, _, _, h4⟩ := brk_some _ t r hb
          have : r.length ≤ (ws.getD n []).length := by rw [h4, List.length_drop, List.length_drop]; omega
          split
          · dsimp only; omega
          · dsimp only
            split
            · rw [List.length_tail]; omega
            · omega
      · dsimp only; omega
    have h2 := f70_eq (partW byzT (ws.getD n [])).2 cs4 hs2 (by decide)
    rw [f40_L0.eq_2, ifd_pos (by omega), chk_pos (by omega), chk_pos (by omega), h1, some_bind]
    have e1 : ([98, 121, 122] ++ [32] : List UInt8) = byzT := rfl
    have e2 : (cs4 ++ [32] : List UInt8) = craT := rfl
    rw [e1, h2, some_bind, e2, chk_pos (by omega), chk_pos (by omega)]
    rfl) (fun n l hn hi => by simp; omega) (fun k l hi => by
    rw [f40_L0.eq_2, ifd_neg (by omega)]) ws.length FUEL 0 [] (by omega) (fuel_lt (by omega)) (by simp)
  rw [List.drop_zero, map_fold8, List.nil_append] at h
  refine Eq.trans h ?_
  have hl : (ws.map parW).length ≤ 1000000 := by rw [List.length_map]; omega
  generalize ws.map parW = m at hl ⊢
  rw [f35_eq m hl, some_bind]
  by_cases e : fmtF m = s
  · rw [if_neg (by simp [e]), if_pos e, f13_eq, some_bind]
    exact fin_eq m
  · rw [if_pos (by simpa using e), if_neg e]
/-! ### the reference -/
theorem f87_eq (x : BitVec 16) : f87 x = some (textP x) := by
  have hj := join_len (memP x.toNat 16) fun i hi => memP_small hi
  have h2 := memP_len16 x.toNat
  have h3 : ∀ i, i ∈ memP x.toNat 16 → i < 16 := fun i hi => memP_small hi
  unfold f87 textP txtW
  have hm : f53 x = some ((memP x.toNat 16).map fun i : Nat => (i : Int)) := f53_eq x
  rw [hm, some_bind, jn_eq]
  generalize memP x.toNat 16 = L at *
  have hl : (L.map fun i : Nat => (i : Int)).length = L.length := List.length_map _
  have loop : ∀ (c k n : Nat), n + c = L.length → c < k → f87_L0 (L.map fun i : Nat => (i : Int)) (fun (s7 : List UInt8) => chk (s7.length + ([125] : List UInt8).length ≤ 9223372036854775807) <| some (s7 ++ ([125] : List UInt8))) k (123 :: join ((L.take n).map itw) [32], n) = some (123 :: (join (L.map itw) [32] ++ [125])) := by
    intro c
    induction c with
    | zero =>
      intro k n hn hk
      obtain ⟨k, rfl⟩ : ∃ q, k = q + 1 := ⟨k - 1, by omega⟩
      rw [f87_L0.eq_2, ifd_neg (by rw [hl]; omega), List.take_of_length_le (by omega), chk_pos (by simp; omega)]
      rfl
    | succ c ih =>
      intro k n hn hk
      obtain ⟨k, rfl⟩ : ∃ q, k = q + 1 := ⟨k - 1, by omega⟩
      have hi := h3 _ (getD_mem8 L n 0 (by omega))
      have hw := itw_len hi
      have hjt := join_len (L.take n) fun i hi => h3 i (List.mem_of_mem_take hi)
      rw [List.length_take] at hjt
      have ht : L.take (n + 1) = L.take n ++ [L.getD n 0] := by
        rw [List.take_add_one]
        simp [List.getD_eq_getElem?_getD, show n < L.length by omega]
      have hsn : join ((L.take (n + 1)).map itw) [32] = if n = 0 then itw (L.getD n 0) else join ((L.take n).map itw) [32] ++ [32] ++ itw (L.getD n 0) := by
        rw [ht, List.map_append, List.map_singleton, join_snoc]
        by_cases h0 : n = 0
        · rw [if_pos h0, h0, List.take_zero, List.map_nil, if_pos rfl]
        · rw [if_neg h0, if_neg]
          intro e
          rw [List.map_eq_nil_iff, List.take_eq_nil_iff] at e
          rcases e with e | e
          · exact h0 e
          · rw [e] at hn; simp at hn
      have hit : f102 (((L.getD n 0 : Nat)) : Int) = some (itw (L.getD n 0)) := by
        unfold f102 itoaO
        rw [if_pos (by omega)]
        rfl
      rw [f87_L0.eq_2, ifd_pos (by rw [hl]; omega), jn_eq]
      by_cases h0 : n = 0
      · rw [ifd_neg (by omega)]
        dsimp only
        rw [mp_get8 L n (by omega), hit, some_bind, chk_pos (by rw [hl]; omega), chk_pos (by rw [hl]; omega), chk_pos (by simp only [List.length_cons]; omega), chk_pos (by omega), ← ih k (n + 1) (by omega) (by omega), hsn, if_pos h0, h0, List.take_zero]
        rfl
      · rw [ifd_pos (by omega), chk_pos (by simp only [List.length_cons, List.length_nil]; omega)]
        dsimp only
        rw [mp_get8 L n (by omega), hit, some_bind, chk_pos (by rw [hl]; omega), chk_pos (by rw [hl]; omega), chk_pos (by simp only [List.length_append, List.length_cons, List.length_nil]; omega), chk_pos (by omega), ← ih k (n + 1) (by omega) (by omega), hsn, if_neg h0]
        simp
  exact loop L.length FUEL 0 (by omega) (fuel_lt (by omega))
theorem cs3_cra : cs3 = 32 :: craT := rfl
theorem f63_eq (u v : BitVec 16) : f63 u v = some (textF (u, v)) := by
  have h1 := textP_len u
  have h2 := textP_len v
  have hz : (BitVec.ofInt 16 0) = 0#16 := rfl
  have e2 : craT.length = 6 := rfl
  unfold f63 textF f23
  rw [some_bind, hz, cs1_cra, cs3_cra]
  dsimp only
  have hor : (u ||| v = 0#16) ↔ (u = 0#16 ∧ v = 0#16) := by
    constructor
    · intro h
      constructor
      · have := congrArg (fun z => z &&& u) h
        apply BitVec.eq_of_getLsbD_eq
        intro i hi
        have h3 := congrArg (fun z => z.getLsbD i) h
        simp only [BitVec.getLsbD_or] at h3
        revert h3
        cases u.getLsbD i <;> simp
      · apply BitVec.eq_of_getLsbD_eq
        intro i hi
        have h3 := congrArg (fun z => z.getLsbD i) h
        simp only [BitVec.getLsbD_or] at h3
        revert h3
        cases v.getLsbD i <;> simp
    · rintro ⟨rfl, rfl⟩; rfl
  by_cases hu : u = 0#16
  · by_cases hv : v = 0#16
    · rw [if_pos (by rw [beq_iff_eq, hor]; exact ⟨hu, hv⟩), if_pos hu, if_pos hv]
      rfl
    · rw [if_neg (by rw [beq_iff_eq, hor]; exact fun h => hv h.2), if_neg (by simpa using hv), if_pos (by simpa using hu), if_pos hu, if_neg hv, f87_eq, some_bind, chk_pos (by omega)]
  · by_cases hv : v = 0#16
    · rw [if_neg (by rw [beq_iff_eq, hor]; exact fun h => hu h.1), if_pos (by simpa using hv), if_neg hu, if_pos hv, f87_eq, some_bind, chk_pos (by simp; omega)]
      rfl
    · rw [if_neg (by rw [beq_iff_eq, hor]; exact fun h => hu h.1), if_neg (by simpa using hv), if_neg (by simpa using hu), if_neg hu, if_neg hv, f87_eq, some_bind, f87_eq, some_bind, chk_pos (by simp; omega), chk_pos (by simp only [List.length_append, List.length_cons, List.length_nil]; omega), chk_pos (by simp only [List.length_append, List.length_cons, List.length_nil]; omega)]
      simp [byzT]
theorem f22_reflp (l : List Flt) (hl : l.length ≤ 1000000) : f22 l l = some true := by
  unfold f22
  rw [if_neg (by simp), jn_eq]
  have : ∀ (m k n : Nat), n + m = l.length → m < k → f22_L0 l l (fun _ => some true) k n = some true := by
    intro m
    induction m with
    | zero =>
      intro k n hn hk
      obtain ⟨k, rfl⟩ : ∃ z, k = z + 1 := ⟨k - 1, by omega⟩
      rw [f22_L0.eq_2, ifd_neg (by omega)]
    | succ m ih =>
      intro k n hn hk
      obtain ⟨k, rfl⟩ : ∃ z, k = z + 1 := ⟨k - 1, by omega⟩
      rw [f22_L0.eq_2, ifd_pos (by omega), chk_pos (by omega), chk_pos (by omega), if_neg (by simp), chk_pos (by omega)]
      exact ih k (n + 1) (by omega) (by omega)
  exact this l.length FUEL 0 (by omega) (fuel_lt (by omega))
end Go.Abs
namespace Go.Abs
section
variable {α : Type} [DecidableEq α]
/-- what the loop holds: the first m of the list done, n3 places kept -/
def CptI (d : α) (x l : List α) (n3 m : Nat) : Prop := l.length = x.length ∧ 0 < m ∧ m ≤ x.length ∧ n3 < m ∧ 0 < n3 ∧ l.take n3 = dd (x.take m) ∧ ∀ j, m ≤ j + 1 → l.getD j d = x.getD j d
theorem take_succ_gD {α : Type} (x : List α) (n : Nat) (d : α) (h : n < x.length) : x.take (n + 1) = x.take n ++ [x.getD n d] := by
  rw [List.take_add_one]
  simp [List.getD_eq_getElem?_getD, h]
theorem ddT_last (d : α) (x : List α) (m : Nat) (h0 : 0 < m) (hm : m ≤ x.length) : (dd (x.take m)).getLast? = some (x.getD (m - 1) d) := by
  rw [dd_last]
  obtain ⟨k, rfl⟩ : ∃ k, m = k + 1 := ⟨m - 1, by omega⟩
  rw [take_succ_gD x k d (by omega)]
  simp
theorem ddT_succ (d : α) (x : List α) (m : Nat) (h0 : 0 < m) (hm : m < x.length) : dd (x.take (m + 1)) = if x.getD m d = x.getD (m - 1) d then dd (x.take m) else dd (x.take m) ++ [x.getD m d] := by
  rw [take_succ_gD x m d hm, dd_snoc]
  unfold ddS
  rw [ddT_last d x m h0 (by omega)]
  by_cases h : x.getD m d = x.getD (m - 1) d
  · rw [if_pos h, if_pos (by rw [h])]
  · rw [if_neg h, if_neg (by intro e; exact h (Option.some.inj e).symm)]
theorem cpt_in {β : Type} (d : α) (x : List α) (n2 : Nat) (L : Nat → Nat × Nat × List α → Option β) (R : Option β) (hn2 : n2 < x.length) (h2 : 0 < n2)
    (hs : ∀ k n3 n4 l, n2 + n4 < x.length → l.length = x.length → n3 < n2 + n4 → 0 < n4 →
      L (k + 1) (n3, n4, l) = if l.getD (n2 + n4) d = l.getD (n2 + (n4 - 1)) d then L k (n3, n4 + 1, l) else L k (n3 + 1, n4 + 1, l.set n3 (l.getD (n2 + n4) d)))
    (hK : ∀ k n3 n4 l, n2 + n4 = x.length → CptI d x l n3 x.length → L (k + 1) (n3, n4, l) = R) : ∀ c k n3 n4 l, n2 + n4 + c = x.length → 0 < n4 → c < k → CptI d x l n3 (n2 + n4) → L k (n3, n4, l) = R
  | 0, k, n3, n4, l, hc, h4, hk, hi => by
    obtain ⟨k, rfl⟩ : ∃ q, k = q + 1 := ⟨k - 1, by omega⟩
    exact hK k _ _ _ (by omega) (by rw [show x.length = n2 + n4 by omega]; exact hi)
  | c + 1, k, n3, n4, l, hc, h4, hk, hi => by
    obtain ⟨k, rfl⟩ : ∃ q, k = q + 1 := ⟨k - 1, by omega⟩
    obtain ⟨i1, i2, i3, i4, i5, i6, i7⟩ := hi
    rw [hs k n3 n4 l (by omega) i1 i4 h4]
    have e1 := i7 (n2 + n4) (by omega)
    have e2 := i7 (n2 + (n4 - 1)) (by omega)
    rw [e1, e2]
    have hd := ddT_succ d x (n2 + n4) (by omega) (by omega)
    rw [show n2 + n4 - 1 = n2 + (n4 - 1) by omega] at hd
    by_cases he : x.getD (n2 + n4) d = x.getD (n2 + (n4 - 1)) d
    · rw [if_pos he] at hd
      rw [if_pos he]
      exact cpt_in d x n2 L R hn2 h2 hs hK c k n3 (n4 + 1) l (by omega) (by omega) (by omega) ⟨i1, by omega, by omega, by omega, i5, by rw [i6, ← hd]; rfl, fun j hj => i7 j (by omega)⟩
    · rw [if_neg he] at hd
      rw [if_neg he]
      refine cpt_in d x n2 L R hn2 h2 hs hK c k (n3 + 1) (n4 + 1) _ (by omega) (by omega) (by omega) ⟨by simp [i1], by omega, by omega, by omega, by omega, ?_, fun j hj => ?_⟩
      · rw [show n2 + (n4 + 1) = n2 + n4 + 1 by omega, hd, ← i6, take_succ_gD _ n3 d (by simp; omega), List.take_set_of_le (Nat.le_refl _)]
        have : n3 < l.length := by omega
        simp [List.getD_eq_getElem?_getD, this]
      · have : n3 ≠ j := by omega
        rw [← i7 j (by omega)]
        simp [List.getD_eq_getElem?_getD, List.getElem?_set_ne this]
theorem ddT_of_ne (d : α) (x : List α) : ∀ n, n ≤ x.length → (∀ j, 0 < j → j < n → x.getD j d ≠ x.getD (j - 1) d) → dd (x.take n) = x.take n
  | 0, _, _ => by simp [dd]
  | n + 1, hn, h => by
    have ih := ddT_of_ne d x n (by omega) fun j h1 h2 => h j h1 (by omega)
    by_cases h0 : n = 0
    · subst h0
      rw [take_succ_gD x 0 d (by omega)]
      simp [dd, ddS]
    · rw [ddT_succ d x n (by omega) (by omega), if_neg (h n (by omega) (by omega)), ih, ← take_succ_gD x n d (by omega)]
/-- the outer loop: ahead of the first pair of equal neighbours -/
theorem cpt_out {β : Type} (d : α) (x : List α) (L : Nat → Nat → Option β) (I : Nat → Option β) (F : List α → Option β)
    (hs : ∀ k n, 0 < n → n < x.length → L (k + 1) n = if x.getD n d = x.getD (n - 1) d then I n else L k (n + 1))
    (hI : ∀ n, 0 < n → n < x.length → CptI d x x n (n + 1) → I n = F (dd x))
    (he : ∀ k, L (k + 1) x.length = F x) : ∀ c k n, n + c = x.length → 0 < n → c < k → (∀ j, 0 < j → j < n → x.getD j d ≠ x.getD (j - 1) d) → L k n = F (dd x)
  | 0, k, n, hc, h0, hk, hi => by
    obtain ⟨k, rfl⟩ : ∃ q, k = q + 1 := ⟨k - 1, by omega⟩
    obtain rfl : n = x.length := by omega
    rw [he]
    have := ddT_of_ne d x x.length (by omega) hi
    rw [List.take_of_length_le (by omega)] at this
    rw [this]
  | c + 1, k, n, hc, h0, hk, hi => by
    obtain ⟨k, rfl⟩ : ∃ q, k = q + 1 := ⟨k - 1, by omega⟩
    rw [hs k n h0 (by omega)]
    by_cases he1 : x.getD n d = x.getD (n - 1) d
    · rw [if_pos he1]
      have hd := ddT_of_ne d x n (by omega) hi
      have hs := ddT_succ d x n (by omega) (by omega)
      rw [if_pos he1, hd] at hs
      exact hI n h0 (by omega) ⟨rfl, by omega, by omega, by omega, h0, hs.symm, fun j _ => rfl⟩
    · rw [if_neg he1]
      refine cpt_out d x L I F hs hI he c k (n + 1) (by omega) (by omega) (by omega) fun j h1 h2 => ?_
      by_cases e : j = n
      · subst e; exact he1
      · exact hi j h1 (by omega)
/-- what is left at the end: the first n3 places -/
theorem cpt_left (d : α) (x l : List α) (n3 : Nat) (h : CptI d x l n3 x.length) (m : Nat) (z : α) : (l.take n3 ++ List.replicate m z).take n3 = dd x := by
  obtain ⟨i1, i2, i3, i4, i5, i6, i7⟩ := h
  rw [List.take_append_of_le_length (by simp; omega), List.take_take, Nat.min_self, i6, List.take_of_length_le (Nat.le_refl _)]
end
end Go.Abs
namespace Go.Abs
theorem fltNe (a b : Flt) : (!((a.1 == b.1) && ((a.2 == b.2) && true))) = (a != b) := by
  rw [Bool.and_true]; rfl
theorem filter_fold {α : Type} (p : α → Bool) (l : List α) : ∀ out : List α, l.foldl (fun out a => if p a then out ++ [a] else out) out = out ++ l.filter p := by
  induction l with
  | nil => intro out; simp
  | cons a l ih =>
    intro out
    rw [List.foldl_cons, ih, List.filter_cons]
    cases p a <;> simp
/-- the reference keeps the first one of some that are equal, and what no other one covers -/
def keepR (x : List Flt) (n : Nat) : Bool := !((List.range x.length).any fun k => cov (x.getD k default) (x.getD n default) && (x.getD k default != x.getD n default || decide (k < n)))
theorem f55_L1_eq (x : List Flt) (n2 : Nat) (K : Bool → Option (List Flt)) (hx : x.length ≤ 65536) (hn : n2 < x.length) : ∀ c k n b, n + c = x.length → c < k →
    f55_L1 x n2 K k (b, n) = K (b && !((List.range' n c).any fun k => cov (x.getD k default) (x.getD n2 default) && (x.getD k default != x.getD n2 default || decide (k < n2))))
  | 0, k, n, b, hc, hk => by
    obtain ⟨k, rfl⟩ : ∃ q, k = q + 1 := ⟨k - 1, by omega⟩
    rw [f55_L1.eq_2, ifd_neg (by omega)]
    simp
  | c + 1, k, n, b, hc, hk => by
    obtain ⟨k, rfl⟩ : ∃ q, k = q + 1 := ⟨k - 1, by omega⟩
    have ih := fun b => f55_L1_eq x n2 K hx hn c k (n + 1) b (by omega) (by omega)
    rw [f55_L1.eq_2, ifd_pos (by omega), jn_eq, f17_eq, some_bind, fltNe, chk_pos (by omega), chk_pos (by omega), chk_pos (by intro; omega), chk_pos (by intro; omega), chk_pos (by
      intro _ h2 h3
      rw [h2, h3]
      rfl)]
    dsimp only
    rw [List.range'_succ, List.any_cons]
    have hd : decide (((n : Nat) : Int) < ((n2 : Nat) : Int)) = decide (n < n2) := by
      rw [Bool.eq_iff_iff, decide_eq_true_eq, decide_eq_true_eq]; omega
    rw [hd]
    cases h : cov (x.getD n default) (x.getD n2 default) && (x.getD n default != x.getD n2 default || decide (n < n2)) with
    | true => rw [if_pos rfl, chk_pos (by omega), ih]; simp
    | false => rw [if_neg (by simp), chk_pos (by omega), ih]; simp
theorem f55_L2_eq (x : List Flt) (n2 : Nat) (K : Nat × List Flt → Option (List Flt)) (l : List Flt) (hl : l.length ≤ 65536) (hn : n2 < x.length) (hx : x.length ≤ 65536) : ∀ c k n, n + c = l.length → c < k → (∀ j, j < n → keyF (l.getD j default) < keyF (x.getD n2 default)) →
    ∃ m, m ≤ l.length ∧ f55_L2 x n2 K k (n, l) = K (m, l) ∧ (∀ j, j < m → keyF (l.getD j default) < keyF (x.getD n2 default)) ∧ (m < l.length → ¬ keyF (l.getD m default) < keyF (x.getD n2 default))
  | 0, k, n, hc, hk, hj => by
    obtain ⟨k, rfl⟩ : ∃ q, k = q + 1 := ⟨k - 1, by omega⟩
    refine ⟨n, by omega, ?_, hj, fun h => by omega⟩
    rw [f55_L2.eq_2]
    have h0 : (decide (((n : Nat) : Int) < (((l).length : Nat) : Int))) = false := by simp; omega
    rw [h0]
    rfl
  | c + 1, k, n, hc, hk, hj => by
    obtain ⟨k, rfl⟩ : ∃ q, k = q + 1 := ⟨k - 1, by omega⟩
    have h0 : (decide (((n : Nat) : Int) < (((l).length : Nat) : Int))) = true := by simp; omega
    obtain ⟨r, h1, h2⟩ := f45_eq (l.getD n default) (x.getD n2 default)
    rw [f55_L2.eq_2, h0, show ((true == true) = true) from rfl, optc_t, h1, some_bind, chk_pos (by intro; omega), chk_pos (by intro; omega), chk_pos (by intro; omega)]
    by_cases hk2 : keyF (l.getD n default) < keyF (x.getD n2 default)
    · have := h2.2 hk2
      rw [if_pos (by simp; omega), chk_pos (by omega)]
      exact f55_L2_eq x n2 K l hl hn hx c k (n + 1) (by omega) (by omega) fun j h => by
        by_cases e : j = n
        · subst e; exact hk2
        · exact hj j (by omega)
    · have : ¬ r < 0 := fun h => hk2 (h2.1 h)
      rw [if_neg (by simp; omega)]
      exact ⟨n, by omega, rfl, hj, fun _ => hk2⟩
theorem keepR_iff (x : List Flt) (n : Nat) (hn : n < x.length) : keepR x n = true ↔ (∀ b, b ∈ x → x.getD n default ≠ b → cov b (x.getD n default) = false) ∧ ∀ k, k < n → x.getD k default ≠ x.getD n default := by
  unfold keepR
  rw [Bool.not_eq_true', List.any_eq_false]
  constructor
  · intro h
    refine ⟨fun b hb hne => ?_, fun k hk e => ?_⟩
    · obtain ⟨j, hj, rfl⟩ := List.getElem_of_mem hb
      have := h j (List.mem_range.2 hj)
      have e : x.getD j default = x[j] := by simp [List.getD_eq_getElem?_getD, hj]
      rw [e] at this
      have h2 : (x[j] != x.getD n default) = true := by simp; exact fun h => hne h.symm
      rw [h2] at this
      simpa using this
    · have := h k (List.mem_range.2 (by omega))
      rw [e, cov_refl, decide_eq_true hk] at this
      simp at this
  · rintro ⟨h1, h2⟩ k hk
    rw [List.mem_range] at hk
    have hmem : x.getD k default ∈ x := by
      rw [List.getD_eq_getElem?_getD, List.getElem?_eq_getElem hk]; exact List.getElem_mem hk
    by_cases e : x.getD n default = x.getD k default
    · have : ¬ k < n := fun h => h2 k h e.symm
      rw [← e, decide_eq_false this]
      simp
    · rw [h1 _ hmem e]; simp
/-- the reference's list, when n places are done -/
def InsI (x : List Flt) (n : Nat) (out : List Flt) : Prop := out.length ≤ n ∧ out.Pairwise (fun a b => keyF a < keyF b) ∧ ∀ a, a ∈ out ↔ ∃ j, j < n ∧ x.getD j default = a ∧ keepR x j = true
theorem f55_L0_eq (x : List Flt) (K : List Flt → Option (List Flt)) (hx : x.length ≤ 65536) : ∀ c k n out, n + c = x.length → c < k → InsI x n out → ∃ out', InsI x x.length out' ∧ f55_L0 x K k (n, out) = K out'
  | 0, k, n, out, hc, hk, hi => by
    obtain ⟨k, rfl⟩ : ∃ q, k = q + 1 := ⟨k - 1, by omega⟩
    refine ⟨out, by rw [show x.length = n by omega]; exact hi, ?_⟩
    rw [f55_L0.eq_2, ifd_neg (by omega)]
  | c + 1, k, n, out, hc, hk, hi => by
    obtain ⟨k, rfl⟩ : ∃ q, k = q + 1 := ⟨k - 1, by omega⟩
    obtain ⟨i1, i2, i3⟩ := hi
    rw [f55_L0.eq_2, ifd_pos (by omega), jn_eq, jn_eq, f55_L1_eq x n _ hx (by omega) x.length FUEL 0 true (by omega) (fuel_lt (by omega)), Bool.true_and, ← List.range_eq_range']
    change ∃ out', _ ∧ (if (!(keepR x n)) = true then _ else _) = _
    cases hkp : keepR x n with
    | false =>
      rw [if_pos (show (!false) = true from rfl)]
      dsimp only
      rw [chk_pos (by omega)]
      refine f55_L0_eq x K hx c k (n + 1) out (by omega) (by omega) ⟨by omega, i2, fun a => (i3 a).trans ?_⟩
      constructor
      · rintro ⟨j, h1, h2⟩; exact ⟨j, by omega, h2⟩
      · rintro ⟨j, h1, h2, h3⟩
        have : j ≠ n := by rintro rfl; rw [hkp] at h3; cases h3
        exact ⟨j, by omega, h2, h3⟩
    | true =>
      rw [if_neg (by simp), jn_eq]
      obtain ⟨m, m1, m2, m3, m4⟩ := f55_L2_eq x n (fun p =>
        chk (((p.1 : Nat) : Int) ≤ (((p.2).length : Nat) : Int)) <|
        chk ((0 + p.1) * 4 ≤ 140737488355328) <|
        chk (((n : Nat) : Int) < (((x).length : Nat) : Int)) <|
        chk ((((p.2.take p.1)).length + 1) * 4 ≤ 140737488355328) <|
        chk (((p.1 : Nat) : Int) ≤ (((p.2).length : Nat) : Int)) <|
        chk (((((p.2.take p.1) ++ [((x.getD n (default : BitVec 16 × BitVec 16)).1, (x.getD n (default : BitVec 16 × BitVec 16)).2)])).length + ((p.2).length - p.1)) * 4 ≤ 140737488355328) <|
        (fun (l9 : List (BitVec 16 × BitVec 16)) =>
          chk ((((n : Nat) : Int) + (1 : Int)) ≤ 9223372036854775807) <|
          (f55_L0 x K k) ((n + 1), l9)) (((p.2.take p.1) ++ [((x.getD n (default : BitVec 16 × BitVec 16)).1, (x.getD n (default : BitVec 16 × BitVec 16)).2)]) ++ (p.2.drop p.1))) out (by omega) (by omega) hx out.length FUEL 0 (by omega) (fuel_lt (by omega)) (fun j h => by omega)
      have hnew : x.getD n default ∉ out := by
        intro h
        obtain ⟨j, h1, h2, h3⟩ := (i3 _).1 h
        exact ((keepR_iff x n (by omega)).1 hkp).2 j h1 h2
      have hs := strict_insert (k := keyF) (fun _ _ => keyF_inj) out (x.getD n default) default m m1 i2 m3 m4 hnew
      have hlen : (out.take m).length ≤ n := by simp; omega
      obtain ⟨out', h1, h2⟩ := f55_L0_eq x K hx c k (n + 1) (out.take m ++ x.getD n default :: out.drop m) (by omega) (by omega) ⟨by simp; omega, hs, fun a => by
        rw [mem_insert_at, i3]
        constructor
        · rintro (rfl | ⟨j, h1, h2⟩)
          · exact ⟨n, by omega, rfl, hkp⟩
          · exact ⟨j, by omega, h2⟩
        · rintro ⟨j, h1, h2, h3⟩
          by_cases e : j = n
          · subst e; exact .inl h2.symm
          · exact .inr ⟨j, by omega, h2, h3⟩⟩
      refine ⟨out', h1, ?_⟩
      refine m2.trans ?_
      dsimp only
      rw [chk_pos (by omega), chk_pos (by omega), chk_pos (by omega), chk_pos (by omega), chk_pos (by omega), chk_pos (by simp; omega), chk_pos (by omega), ← h2]
      rw [List.append_assoc]
      rfl
theorem f55_eq (x : List Flt) (hx : x.length ≤ 65536) : f55 x = some (normP x) := by
  unfold f55
  rw [jn_eq]
  obtain ⟨out', ⟨i1, i2, i3⟩, h2⟩ := f55_L0_eq x (fun l => some l) hx x.length FUEL 0 [] (by omega) (fuel_lt (by omega)) ⟨Nat.le_refl _, .nil, fun a => by simp⟩
  refine h2.trans ?_
  congr 1
  refine strict_uniq (k := keyF) (fun _ _ => keyF_inj) _ _ (fun a => ?_) i2 (normP_strict x)
  rw [i3, mem_normP]
  constructor
  · rintro ⟨j, h1, rfl, h3⟩
    refine ⟨?_, ((keepR_iff x j h1).1 h3).1⟩
    rw [List.getD_eq_getElem?_getD, List.getElem?_eq_getElem h1]; exact List.getElem_mem h1
  · rintro ⟨h1, h2⟩
    -- the first place of a
    have hex : ∃ j, j < x.length ∧ x.getD j default = a := by
      obtain ⟨j, hj, rfl⟩ := List.getElem_of_mem h1
      exact ⟨j, hj, by simp [List.getD_eq_getElem?_getD, hj]⟩
    have hmin : ∀ n, (∃ j, j < n ∧ j < x.length ∧ x.getD j default = a) → ∃ j, j < x.length ∧ x.getD j default = a ∧ ∀ k, k < j → x.getD k default ≠ a := by
      intro n
      induction n with
      | zero => rintro ⟨j, h, _⟩; omega
      | succ n ih =>
        intro h
        by_cases hb : ∃ j, j < n ∧ j < x.length ∧ x.getD j default = a
        · exact ih hb
        · obtain ⟨j, j1, j2, j3⟩ := h
          refine ⟨j, j2, j3, fun k hk e => hb ⟨k, by omega, by omega, e⟩⟩
    obtain ⟨j, j1, j2⟩ := hex
    obtain ⟨j, j1, j2, j3⟩ := hmin (j + 1) ⟨j, by omega, j1, j2⟩
    exact ⟨j, j1, j2, (keepR_iff x j j1).2 ⟨by rw [j2]; exact h2, by rw [j2]; exact j3⟩⟩
theorem f66_eq (x : List (BitVec 16)) (hx : x.length ≤ 65536) : f66 x = some (dd x) := by
  unfold f66
  by_cases h : x.length < 2
  · rw [ifd_pos (by omega)]
    match x, h with
    | [], _ => rfl
    | [a], _ => rfl
    | a :: b :: l, h => simp at h; omega
  · rw [ifd_neg (by omega), jn_eq]
    refine cpt_out (0#16 : BitVec 16) x (f66_L0 x fun _ => some x)
      (fun n2 => f66_L1 x n2 (fun p =>
        chk (((p.1 : Nat) : Int) ≤ (((p.2).length : Nat) : Int)) <|
        chk (p.1 + ((p.2).length - p.1) ≤ (p.2).length ∧ 0 < ((p.2).length - p.1)) <|
        chk (((p.1 : Nat) : Int) ≤ ((((p.2.take p.1 ++ List.replicate ((p.2).length - p.1) (BitVec.ofInt 16 0))).length : Nat) : Int)) <|
        chk (p.1 ≤ (p.2.take p.1 ++ List.replicate ((p.2).length - p.1) (BitVec.ofInt 16 0)).length) <|
        some ((p.2.take p.1 ++ List.replicate ((p.2).length - p.1) (BitVec.ofInt 16 0)).take p.1)) FUEL (n2, 1, x)) some ?_ ?_ ?_ (x.length - 1) FUEL 1 (by omega) (by omega) (fuel_lt (by omega)) (fun j h1 h2 => by omega)
    · intro k n h0 hn
      have ht : (((n : Nat) : Int) - (1 : Int)).toNat = n - 1 := by omega
      rw [f66_L0.eq_2, ifd_pos (by omega), chk_pos (by omega), chk_pos (by omega), chk_pos (by omega), chk_pos (by omega), chk_pos (by omega), ht]
      by_cases he : x.getD n 0#16 = x.getD (n - 1) 0#16
      · rw [if_pos he, if_pos (by rw [he]; simp), chk_pos (by omega), jn_eq]
      · rw [if_neg he, if_neg (by simpa using he), chk_pos (by omega)]
    · intro n h0 hn hi
      refine cpt_in (0#16 : BitVec 16) x n (f66_L1 x n _) (some (dd x)) hn h0 ?_ ?_ (x.length - n - 1) FUEL n 1 x (by omega) (by omega) (fuel_lt (by omega)) hi
      · intro k n3 n4 l h1 h2 h3 h4
        have ht : (((n4 : Nat) : Int) - (1 : Int)).toNat = n4 - 1 := by omega
        rw [f66_L1.eq_2, ifd_pos (by omega), jn_eq, chk_pos (by omega), chk_pos (by omega), chk_pos (by omega), chk_pos (by omega), chk_pos (by omega), ht]
        by_cases he : l.getD (n + n4) 0#16 = l.getD (n + (n4 - 1)) 0#16
        · rw [if_pos he, if_neg (by rw [he]; simp)]
          dsimp only
          rw [chk_pos (by omega)]
        · rw [if_neg he, if_pos (by simpa using he), chk_pos (by omega), chk_pos (by omega), chk_pos (by omega), chk_pos (by omega), chk_pos (by omega)]
          dsimp only
          rw [chk_pos (by omega)]
      · intro k n3 n4 l h1 hi
        have hi0 := hi
        obtain ⟨i1, i2, i3, i4, i5, i6, i7⟩ := hi
        rw [f66_L1.eq_2, ifd_neg (by omega)]
        dsimp only
        rw [chk_pos (by omega), chk_pos (by omega), chk_pos (by simp; omega), chk_pos (by simp; omega), cpt_left 0#16 x l n3 hi0]
    · intro k
      rw [f66_L0.eq_2, ifd_neg (by omega)]
theorem f64_eq (x : List (BitVec 16)) (hx : x.length ≤ 65536) : f64 x = some (isortK key x) := by
  unfold f64 sortO; rw [if_pos (by omega)]
theorem f93_eq (x : List (BitVec 16)) (a : BitVec 16) (hx : x.length ≤ 65536) : ∃ i : Int, f93 x a = some (i, a) ∧ (decide (i ≥ 0)) = x.any fun t => t != a && sub a t := by
  unfold f93
  rw [jn_eq]
  have := find_up (fun k n => f93_L0 x (fun w6 => some ((-1 : Int), w6)) k (n, a)) x 0#16 (fun t => t != a && sub a t) (fun n => some ((n : Int), a)) (some (-1, a))
    (fun k n hn => by
      rw [f93_L0.eq_2, if_pos (by simp; omega)]
      unfold f68
      rw [some_bind, chk_pos (by omega)]
      change (if (x.getD n 0#16 != a && sub a (x.getD n 0#16)) = true then _ else _) = _
      cases x.getD n 0#16 != a && sub a (x.getD n 0#16) with
      | true => rw [if_pos rfl, if_pos rfl]
      | false => rw [if_neg (by simp), if_neg (by simp), chk_pos (by omega)])
    (fun k => by
      rw [f93_L0.eq_2, if_neg (by simp)]) x.length FUEL 0 (by omega) (fuel_lt (by omega))
  rcases this with ⟨m, _, _, _, h1, h2⟩ | ⟨h1, h2⟩
  · refine ⟨m, h1, ?_⟩
    rw [List.drop_zero] at h2
    rw [h2]; simp
  · refine ⟨-1, h1, ?_⟩
    rw [List.drop_zero] at h2
    rw [h2]; simp
theorem f67_eq (x : List (BitVec 16)) (a : BitVec 16) (hx : x.length ≤ 65536) : f67 x a = some (x.any fun t => t != a && sub a t, a) := by
  obtain ⟨i, h1, h2⟩ := f93_eq x a hx
  unfold f67
  rw [h1, some_bind, h2]
/-- the sets that are in no other one -/
def maxB (l : List (BitVec 16)) (a : BitVec 16) : Bool := !(l.any fun t => t != a && sub a t)
def byzP (l : List (BitVec 16)) : List (BitVec 16) := (srt l).filter (maxB (srt l))
theorem map_foldB {α β : Type} (g : α → β) (l : List α) : ∀ out : List β, l.foldl (fun out a => out ++ [g a]) out = out ++ l.map g := by
  induction l with
  | nil => intro out; simp
  | cons a l ih => intro out; rw [List.foldl_cons, ih, List.map_cons]; simp
theorem f38_L1_eq (r : List (BitVec 16)) (K : List (BitVec 16) → Option (List (BitVec 16))) (hr : r.length ≤ 65536) : f38_L1 r K FUEL (0, []) = K (r.filter (maxB r)) := by
  rw [fold_up (f38_L1 r K) r 0#16 (fun n l => l.length ≤ n) (fun out a => if maxB r a then out ++ [a] else out) K ?_ ?_ ?_ r.length FUEL 0 [] (by omega) (fuel_lt (by omega)) (Nat.le_refl _)]
  · rw [List.drop_zero, filter_fold, List.nil_append]
  · intro k n s hn hs
    rw [f38_L1.eq_2, ifd_pos (by omega), jn_eq, chk_pos (by omega), chk_pos (by omega), f67_eq _ _ (by omega), some_bind]
    unfold maxB
    cases r.any fun t => t != r.getD n 0#16 && sub (r.getD n 0#16) t with
    | false =>
      rw [if_pos (by rfl), chk_pos (by omega)]
      dsimp only
      rw [chk_pos (by omega), if_pos (show (!false) = true from rfl)]
    | true =>
      rw [if_neg (by simp)]
      dsimp only
      rw [chk_pos (by omega), if_neg (by simp)]
  · intro n s hn hs
    split
    · simp; omega
    · omega
  · intro k s hs
    rw [f38_L1.eq_2, ifd_neg (by omega)]
theorem f38_eq (m : List Flt) (hm : m.length ≤ 1000) : f38 m = some (byzP (m.map fun a => a.1)) := by
  have hl : (m.map fun a => a.1).length ≤ 1000 := by rw [List.length_map]; omega
  have hs := srt_len (m.map fun a => a.1)
  have hi := (isortK_perm (k := key) (m.map fun a => a.1)).length_eq
  unfold f38
  rw [jn_eq]
  refine (fold_up (f38_L0 m _) m default (fun n l => l.length ≤ n) (fun out a => out ++ [a.1]) (fun l4 => (f64 l4).bind fun r5 => (f66 r5).bind fun r6 => jn (fun l11 => some l11) fun K2 => f38_L1 r6 K2 FUEL (0, [])) ?_ ?_ ?_ m.length FUEL 0 [] (by omega) (fuel_lt (by omega)) (Nat.le_refl _)).trans ?_
  · intro k n s hn hs
    rw [f38_L0.eq_2, ifd_pos (by omega), chk_pos (by omega), chk_pos (by omega), chk_pos (by omega)]
  · intro n s hn hs
    simp; omega
  · intro k s hs
    rw [f38_L0.eq_2, ifd_neg (by omega)]
  · rw [List.drop_zero, map_foldB, List.nil_append]
    rw [f64_eq _ (Nat.le_trans hl (by omega)), some_bind, f66_eq _ (Nat.le_trans (Nat.le_of_eq hi) (by omega)), some_bind, jn_eq]
    exact f38_L1_eq (srt _) _ (Nat.le_trans hs (by omega))
theorem f39_eq (m : List Flt) (hm : m.length ≤ 1000) : f39 m = some ((normP (m.map fun a => (a.1, 0#16))).map fun a => a.1) := by
  have hl : (m.map fun a => (a.1, 0#16)).length ≤ 1000 := by rw [List.length_map]; omega
  have hn := normP_len (m.map fun a => (a.1, 0#16))
  have hz : (BitVec.ofInt 16 0) = 0#16 := rfl
  unfold f39
  rw [jn_eq]
  refine (fold_up (f39_L0 m _) m default (fun n l => l.length ≤ n) (fun out a => out ++ [(a.1, 0#16)]) (fun l4 => (f55 l4).bind fun r5 => jn (fun l8 => some l8) fun K2 => f39_L1 r5 K2 FUEL (0, [])) ?_ ?_ ?_ m.length FUEL 0 [] (by omega) (fuel_lt (by omega)) (Nat.le_refl _)).trans ?_
  · intro k n s hn hs
    rw [f39_L0.eq_2, ifd_pos (by omega), chk_pos (by omega), chk_pos (by omega), chk_pos (by omega), hz]
  · intro n s hn hs
    simp; omega
  · intro k s hs
    rw [f39_L0.eq_2, ifd_neg (by omega)]
  · rw [List.drop_zero, map_foldB, List.nil_append]
    rw [f55_eq _ (by omega), some_bind, jn_eq]
    generalize normP (m.map fun a => (a.1, 0#16)) = r at hn ⊢
    refine (fold_up (f39_L1 r _) r default (fun n l => l.length ≤ n) (fun out a => out ++ [a.1]) (fun l => some l) ?_ ?_ ?_ r.length FUEL 0 [] (by omega) (fuel_lt (by omega)) (Nat.le_refl _)).trans ?_
    · intro k n s hn hs
      rw [f39_L1.eq_2, ifd_pos (by omega), chk_pos (by omega), chk_pos (by omega), chk_pos (by omega), chk_pos (by omega)]
    · intro n s hn hs
      simp; omega
    · intro k s hs
      rw [f39_L1.eq_2, ifd_neg (by omega)]
    · rw [List.drop_zero, map_foldB, List.nil_append]
/-- both are one list -/
theorem byz_both (m : List Flt) : (normP (m.map fun a => (a.1, 0#16))).map (fun a => a.1) = byzP (m.map fun a => a.1) := by
  have h2 : ∀ a, a ∈ normP (m.map fun a => (a.1, 0#16)) → a.2 = 0#16 := fun a ha => by
    have := ((mem_normP _ _).1 ha).1
    obtain ⟨b, _, rfl⟩ := List.mem_map.1 this
    rfl
  have hf : ∀ x : BitVec 16, ftyS (x, 0#16) = x := fun x => by unfold ftyS; simp
  have hc : ∀ x y : BitVec 16, cov (y, 0#16) (x, 0#16) = sub x y := fun x y => by
    unfold cov
    rw [hf, hf]
    cases sub x y <;> rfl
  refine strict_uniq (k := key) (fun _ _ => key_inj') _ _ (fun x => ?_) ?_ (List.Pairwise.filter _ (srt_sorted _))
  · unfold byzP maxB
    rw [List.mem_map, List.mem_filter, mem_srt, Bool.not_eq_true', List.any_eq_false]
    constructor
    · rintro ⟨a, ha, rfl⟩
      have h0 := h2 a ha
      obtain ⟨u, v⟩ := a
      dsimp only at h0 ⊢
      subst h0
      obtain ⟨h3, h4⟩ := (mem_normP _ _).1 ha
      obtain ⟨b, hb, hb2⟩ := List.mem_map.1 h3
      have hb3 : b.1 = u := congrArg Prod.fst hb2
      refine ⟨List.mem_map.2 ⟨b, hb, hb3⟩, fun t ht => ?_⟩
      rw [mem_srt] at ht
      obtain ⟨c, hc1, rfl⟩ := List.mem_map.1 ht
      by_cases e : c.1 = u
      · rw [e]; simp
      · have := h4 (c.1, 0#16) (List.mem_map.2 ⟨c, hc1, rfl⟩) fun h => e (congrArg Prod.fst h).symm
        rw [hc] at this
        rw [this]; simp
    · rintro ⟨h3, h4⟩
      obtain ⟨b, hb, rfl⟩ := List.mem_map.1 h3
      refine ⟨(b.1, 0#16), (mem_normP _ _).2 ⟨List.mem_map.2 ⟨b, hb, rfl⟩, fun c hc1 hne => ?_⟩, rfl⟩
      obtain ⟨d, hd, rfl⟩ := List.mem_map.1 hc1
      have := h4 d.1 ((mem_srt _ _).2 (List.mem_map.2 ⟨d, hd, rfl⟩))
      have hn : (d.1 != b.1) = true := by
        simp only [bne_iff_ne, ne_eq]
        intro e
        exact hne (by rw [e])
      rw [hn, Bool.true_and] at this
      rw [hc]
      simpa using this
  · rw [List.pairwise_map]
    refine List.Pairwise.imp_of_mem (fun {a b} ha hb h => ?_) (normP_strict _)
    unfold keyF at h
    rw [h2 a ha, h2 b hb] at h
    omega
end Go.Abs
namespace Go.Abs
open Go Go.Lib
theorem f36_L0_eq (m : List Flt) (hm : m.length ≤ 1000) (K : List UInt8 → Option (List UInt8)) : ∀ (c k n : Nat) (s : List UInt8), n + c = m.length → 0 < n → c < k → s.length ≤ 123 * n → f36_L0 m K k (s, n) = K (s ++ joinTail sepT ((m.drop n).map textF))
  | 0, k, n, s, hn, h0, hk, hs => by
    obtain ⟨k, rfl⟩ : ∃ q, k = q + 1 := ⟨k - 1, by omega⟩
    rw [f36_L0.eq_2, ifd_neg (by omega), List.drop_eq_nil_of_le (by omega)]
    simp [joinTail]
  | c + 1, k, n, s, hn, h0, hk, hs => by
    obtain ⟨k, rfl⟩ : ∃ q, k = q + 1 := ⟨k - 1, by omega⟩
    have hl := textF_len (m.getD n default)
    have e3 : ([32, 124, 32] : List UInt8).length = 3 := rfl
    have ih := f36_L0_eq m hm K c k (n + 1) (s ++ [32, 124, 32] ++ textF (m.getD n default)) (by omega) (by omega) (by omega) (by
      rw [List.length_append, List.length_append, e3]; omega)
    rw [f36_L0.eq_2, ifd_pos (by omega), jn_eq, ifd_pos (by omega), chk_pos (by omega)]
    dsimp only
    rw [f63_eq, some_bind, chk_pos (by omega), chk_pos (by
      have : (textF ((m.getD n default).1, (m.getD n default).2)).length ≤ 120 := hl
      rw [List.length_append, e3]; omega), chk_pos (by omega)]
    refine ih.trans ?_
    rw [getD_drop m n default (by omega), List.map_cons, joinTail_cons]
    simp [sepT]
theorem f36_eq (m : List Flt) (hm : m.length ≤ 1000) : f36 m = some (fmtF m) := by
  unfold f36 fmtF
  rw [jn_eq]
  have hf : FUEL = (FUEL - 1) + 1 := by unfold FUEL; rfl
  have hF := fuel_lt (n := 2000) (by omega)
  cases m with
  | nil =>
    rw [hf, f36_L0.eq_2, ifd_neg (by simp)]
    rfl
  | cons a r =>
    have hl := textF_len a
    rw [hf, f36_L0.eq_2, ifd_pos (by simp), jn_eq, ifd_neg (by omega)]
    dsimp only
    rw [f63_eq, some_bind, chk_pos (by simp), chk_pos (by
      have : (textF (((a :: r).getD 0 default).1, ((a :: r).getD 0 default).2)).length ≤ 120 := hl
      simp only [List.length_nil]
      omega), chk_pos (by omega)]
    have h := f36_L0_eq (a :: r) hm (fun s => some s) r.length (FUEL - 1) 1 (textF a) (by simp; omega) (by omega) (by simp at hm; omega) (by omega)
    refine Eq.trans h ?_
    rw [List.map_cons, join_cons]
    rfl
theorem f37_refl (l : List (BitVec 16)) (hl : l.length ≤ 1000000) : f37 l l = some true := by
  unfold f37
  rw [if_neg (by simp), jn_eq]
  have : ∀ (m k n : Nat), n + m = l.length → m < k → f37_L0 l l (fun _ => some true) k n = some true := by
    intro m
    induction m with
    | zero =>
      intro k n hn hk
      obtain ⟨k, rfl⟩ : ∃ q, k = q + 1 := ⟨k - 1, by omega⟩
      rw [f37_L0.eq_2, ifd_neg (by omega)]
    | succ m ih =>
      intro k n hn hk
      obtain ⟨k, rfl⟩ : ∃ q, k = q + 1 := ⟨k - 1, by omega⟩
      rw [f37_L0.eq_2, ifd_pos (by omega), chk_pos (by omega), chk_pos (by omega), if_neg (by simp), chk_pos (by omega)]
      exact ih k (n + 1) (by omega) (by omega)
  exact this l.length FUEL 0 (by omega) (fuel_lt (by omega))
theorem errF_rd {a : Flt} (h : errF a = 0) : rdF a := by
  unfold errF at h
  split at h
  · rename_i h1
    unfold ftyS at h1
    rw [BitVec.toNat_or] at h1
    exact ⟨Nat.lt_of_le_of_lt (Nat.left_le_or ..) h1, Nat.lt_of_le_of_lt (Nat.right_le_or ..) h1⟩
  · cases h
theorem scan_err {x : List Flt} : ∀ (c n : Nat), scanF x c n = none → ∀ j, n ≤ j → j < n + c → errF (x.getD j default) = 0
  | 0, n, _, j, h1, h2 => by omega
  | c + 1, n, h, j, h1, h2 => by
    unfold scanF at h
    split at h
    · cases h
    · rename_i he
      split at h
      · cases h
      · split at h
        · cases h
        · by_cases e : j = n
          · subst e; exact Classical.not_not.1 he
          · exact scan_err c (n + 1) h j (by omega) (by omega)
theorem scan_ne {x : List Flt} : ∀ (c n : Nat) (e : Int), scanF x c n = some e → e ≠ 0
  | 0, n, e, h => by cases h
  | c + 1, n, e, h => by
    unfold scanF at h
    split at h
    · rename_i he
      cases h; exact he
    · split at h
      · cases h; decide
      · split at h
        · cases h; decide
        · exact scan_ne c (n + 1) e h
theorem valid_rd {x : List Flt} (h : validF x = 0) : x ≠ [] ∧ ∀ a, a ∈ x → rdF a := by
  unfold validF at h
  split at h
  · cases h
  · rename_i h0
    split at h
    · cases h
    · refine ⟨fun e => h0 (by rw [e]; rfl), fun a ha => ?_⟩
      obtain ⟨j, hj, rfl⟩ := List.getElem_of_mem ha
      have e : x.getD j default = x[j] := by simp [List.getD_eq_getElem?_getD, hj]
      rw [← e]
      cases hs : scanF x x.length 0 with
      | none => exact errF_rd (scan_err x.length 0 hs j (by omega) (by omega))
      | some e => rw [hs] at h; exact absurd h (scan_ne _ _ _ hs)
theorem f10_true (m : List Flt) : f10 m = some true := by
  unfold f10
  rw [f12_true, some_bind]
  by_cases hl : m.length ≤ 30
  · have hL := fmtF_len m
    have hb : (byzP (m.map fun a => a.1)).length ≤ 1000000 := by
      have h1 := srt_len (m.map fun a => a.1)
      have h2 : (byzP (m.map fun a => a.1)).length ≤ (srt (m.map fun a => a.1)).length := List.length_filter_le _ _
      rw [List.length_map] at h1
      omega
    rw [if_neg (by simp; omega), f14_eq m (by omega), some_bind, f35_eq m (by omega), some_bind, f36_eq m (by omega), some_bind, if_neg (by simp), some_bind, f38_eq m (by omega), some_bind, f39_eq m (by omega), byz_both, some_bind, f37_refl _ hb, some_bind, if_neg (by simp), f15_eq, some_bind]
    by_cases hv : validF m = 0
    · obtain ⟨h1, h2⟩ := valid_rd hv
      have hp : (Lib.split (fmtF m) sepT).map parW = m := by rw [split_fmt h1, par_map h2]
      rw [if_neg (by simp [hv]), f40_eq _ (by omega), hp, if_pos rfl, some_bind]
      have hfin : finV m = (0, m) := by unfold finV; rw [if_neg (by simp [hv])]
      dsimp only
      rw [hfin]
      have e1 : (((0 : Int) == (0 : Int)) == true) = true := by decide
      dsimp only
      rw [e1, optc_t, f22_reflp m (by omega), some_bind]
      rfl
    · rw [if_pos (by simpa using hv)]
  · rw [if_pos (by simp; omega)]
    rfl
end Go.Abs
