/- Part 20 of the proof: Num, Pure1, Srt2, Fam, Fam2, FamF, Pl, Thr19a. -/
import Derived.Test.YtmcmhjdmilgoeaaGreatDoorFlttxtZ19
import Derived.Lib.AtoiAllCases
import Derived.Lib.ItoaLen
namespace Go.Abs
open Go Go.Lib
theorem parse_app : ∀ (a b : List UInt8) (acc : Nat) (v : Nat), parseUint10 acc a = .ok v → parseUint10 acc (a ++ b) = parseUint10 v b
  | [], b, acc, v, h => by
    simp only [parseUint10, NumEnd.ok.injEq] at h
    subst h; rfl
  | c :: a, b, acc, v, h => by
    simp only [parseUint10, List.cons_append] at h ⊢
    split at h
    · split at h
      · cases h
      · split at h
        · cases h
        · rename_i h1 h2 h3
          rw [if_pos h1, if_neg h2, if_neg h3]
          exact parse_app a b _ v h
    · cases h
theorem dig_nat (d : Nat) (h : d < 10) : (UInt8.ofNat (48 + d)).toNat = 48 + d := by
  simp [UInt8.toNat_ofNat']
  omega
theorem parse_dig (n : Nat) (hn : n ≤ 9223372036854775807) : parseUint10 0 (decDigits n) = .ok n := by
  induction n using Nat.strongRecOn with
  | ind n ih =>
    by_cases h : n < 10
    · rw [decDigits, dif_pos h]
      simp only [parseUint10, dig_nat n h]
      rw [if_pos (by omega), if_neg (by omega), if_neg (by omega)]
      congr 1
      omega
    · rw [decDigits, dif_neg h]
      have := ih (n / 10) (by omega) (by omega)
      rw [parse_app _ _ _ _ this]
      simp only [parseUint10, dig_nat (n % 10) (by omega)]
      rw [if_pos (by omega), if_neg (by omega), if_neg (by omega)]
      congr 1
      omega
theorem dig_ne (n : Nat) : decDigits n ≠ [] := by
  rw [decDigits]
  split <;> simp
theorem dig_head (n : Nat) : ∃ c r, decDigits n = c :: r ∧ 48 ≤ c.toNat ∧ c.toNat ≤ 57 := by
  induction n using Nat.strongRecOn with
  | ind n ih =>
    by_cases h : n < 10
    · rw [decDigits, dif_pos h]
      exact ⟨_, _, rfl, by rw [dig_nat n h]; omega, by rw [dig_nat n h]; omega⟩
    · obtain ⟨c, r, e, h1, h2⟩ := ih (n / 10) (by omega)
      rw [decDigits, dif_neg h, e]
      exact ⟨c, _, rfl, h1, h2⟩
theorem atoi_itoa (n : Int) (h0 : 0 ≤ n) (h1 : n ≤ 9223372036854775807) : Lib.atoiAll (Lib.itoa n) = .ok n := by
  rw [Lib.itoa, if_neg (by omega)]
  obtain ⟨m, rfl⟩ : ∃ m : Nat, n = m := ⟨n.toNat, by omega⟩
  rw [Int.toNat_natCast]
  obtain ⟨c, r, e, h2, h3⟩ := dig_head m
  have hp := parse_dig m (by omega)
  rw [e] at hp ⊢
  rw [atoiAll_plain c r (by omega) (by omega)]
  unfold parseMag
  rw [if_neg (by simp), hp]
  unfold signless
  simp only
  rw [if_neg (by omega)]
end Go.Abs
namespace Go.Abs

/-- the bits of n from number i on, c of them -/
def bsum (n : Nat) : Nat → Nat → Nat
  | _, 0 => 0
  | i, c + 1 => n / 2 ^ i % 2 + bsum n (i + 1) c
def sz (x : BitVec 16) : Nat := bsum x.toNat 0 16
theorem bsum_lo (n : Nat) : bsum (n % 256) 0 8 = bsum n 0 8 := by
  have h0 : n % 256 / 2 ^ 0 % 2 = n / 2 ^ 0 % 2 := by omega
  have h1 : n % 256 / 2 ^ 1 % 2 = n / 2 ^ 1 % 2 := by omega
  have h2 : n % 256 / 2 ^ 2 % 2 = n / 2 ^ 2 % 2 := by omega
  have h3 : n % 256 / 2 ^ 3 % 2 = n / 2 ^ 3 % 2 := by omega
  have h4 : n % 256 / 2 ^ 4 % 2 = n / 2 ^ 4 % 2 := by omega
  have h5 : n % 256 / 2 ^ 5 % 2 = n / 2 ^ 5 % 2 := by omega
  have h6 : n % 256 / 2 ^ 6 % 2 = n / 2 ^ 6 % 2 := by omega
  have h7 : n % 256 / 2 ^ 7 % 2 = n / 2 ^ 7 % 2 := by omega
  simp only [bsum, h0, h1, h2, h3, h4, h5, h6, h7]
theorem bsum_hi (n m : Nat) : ∀ c i, bsum (n / 2 ^ m) i c = bsum n (m + i) c
  | 0, i => rfl
  | c + 1, i => by
    simp only [bsum, bsum_hi n m c (i + 1)]
    rw [Nat.div_div_eq_div_mul, ← Nat.pow_add]
    rfl
theorem bsum_app (n : Nat) : ∀ c i d, bsum n i (c + d) = bsum n i c + bsum n (i + c) d
  | 0, i, d => by simp [bsum]
  | c + 1, i, d => by
    rw [show c + 1 + d = (c + d) + 1 by omega]
    simp only [bsum, bsum_app n c (i + 1) d]
    rw [show i + 1 + c = i + (c + 1) by omega]; omega
theorem bsum_split (n : Nat) : bsum (n / 256) 0 8 + bsum (n % 256) 0 8 = bsum n 0 16 := by
  have h := bsum_app n 8 0 8
  have h2 := bsum_hi n 8 8 0
  rw [bsum_lo]
  simp only [Nat.reducePow, Nat.reduceAdd] at h h2 ⊢
  omega
theorem bsum_le (n : Nat) : ∀ c i, bsum n i c ≤ c
  | 0, i => Nat.le_refl _
  | c + 1, i => by
    have := bsum_le n c (i + 1)
    have hb : n / 2 ^ i % 2 < 2 := Nat.mod_lt _ (by decide)
    simp only [bsum]; omega
def pop8 : List UInt8 := [0, 1, 1, 2, 1, 2, 2, 3, 1, 2, 2, 3, 2, 3, 3, 4, 1, 2, 2, 3, 2, 3, 3, 4, 2, 3, 3, 4, 3, 4, 4, 5, 1, 2, 2, 3, 2, 3, 3, 4, 2, 3, 3, 4, 3, 4, 4, 5, 2, 3, 3, 4, 3, 4, 4, 5, 3, 4, 4, 5, 4, 5, 5, 6, 1, 2, 2, 3, 2, 3, 3, 4, 2, 3, 3, 4, 3, 4, 4, 5, 2, 3, 3, 4, 3, 4, 4, 5, 3, 4, 4, 5, 4, 5, 5, 6, 2, 3, 3, 4, 3, 4, 4, 5, 3, 4, 4, 5, 4, 5, 5, 6, 3, 4, 4, 5, 4, 5, 5, 6, 4, 5, 5, 6, 5, 6, 6, 7, 1, 2, 2, 3, 2, 3, 3, 4, 2, 3, 3, 4, 3, 4, 4, 5, 2, 3, 3, 4, 3, 4, 4, 5, 3, 4, 4, 5, 4, 5, 5, 6, 2, 3, 3, 4, 3, 4, 4, 5, 3, 4, 4, 5, 4, 5, 5, 6, 3, 4, 4, 5, 4, 5, 5, 6, 4, 5, 5, 6, 5, 6, 6, 7, 2, 3, 3, 4, 3, 4, 4, 5, 3, 4, 4, 5, 4, 5, 5, 6, 3, 4, 4, 5, 4, 5, 5, 6, 4, 5, 5, 6, 5, 6, 6, 7, 3, 4, 4, 5, 4, 5, 5, 6, 4, 5, 5, 6, 5, 6, 6, 7, 4, 5, 5, 6, 5, 6, 6, 7, 5, 6, 6, 7, 6, 7, 7, 8]
theorem pop8_all : (List.range 256).all (fun b => (pop8.getD b 0).toNat == bsum b 0 8) = true := by decide +kernel
theorem pop8_at (b : Nat) (h : b < 256) : (pop8.getD b 0).toNat = bsum b 0 8 := by
  have := List.all_eq_true.1 pop8_all b (List.mem_range.2 h)
  simpa using this
def cmpI (a b : Int) : Int := if a < b then -1 else if a > b then 1 else 0
/-- the order of sets -/
def ltS (a b : BitVec 16) : Bool := if sz a ≠ sz b then decide (sz a < sz b) else decide (a.toNat < b.toNat)
def key (x : BitVec 16) : Nat := sz x * 65536 + x.toNat
theorem ltS_key {a b : BitVec 16} : ltS a b = true ↔ key a < key b := by
  have ha := a.isLt
  have hb := b.isLt
  unfold ltS key
  by_cases h : sz a = sz b
  · simp [h]
  · simp only [ne_eq, h, not_false_eq_true, if_true, decide_eq_true_eq]
    omega
/-- set.Compare -/
def cmpS (a b : BitVec 16) : Int := if cmpI (sz a) (sz b) ≠ 0 then cmpI (sz a) (sz b) else cmpI a.toNat b.toNat
theorem cmpS_lt (a b : BitVec 16) : decide (cmpS a b < 0) = ltS a b := by
  unfold cmpS cmpI ltS
  by_cases h : sz a = sz b
  · simp [h]
    by_cases h2 : a.toNat < b.toNat
    · simp [h2]
    · simp [h2]; split <;> omega
  · by_cases h1 : sz a < sz b
    · simp [h, h1]
    · have : sz b < sz a := by omega
      simp [h, h1, this]
end Go.Abs
namespace Go.Abs
section
variable {α : Type}
def insK (k : α → Nat) (a : α) : List α → List α
  | [] => [a]
  | b :: l => if k a ≤ k b then a :: b :: l else b :: insK k a l
def isortK (k : α → Nat) : List α → List α
  | [] => []
  | a :: l => insK k a (isortK k l)
variable {k : α → Nat}
theorem insK_perm (a : α) : ∀ l, (insK k a l).Perm (a :: l)
  | [] => .refl _
  | b :: l => by
    unfold insK
    split
    · exact .refl _
    · exact ((insK_perm a l).cons b).trans (.swap ..)
theorem isortK_perm : ∀ l, (isortK k l).Perm l
  | [] => .refl _
  | a :: l => (insK_perm a _).trans ((isortK_perm l).cons a)
theorem insK_sorted (a : α) : ∀ l, l.Pairwise (fun x y => k x ≤ k y) → (insK k a l).Pairwise fun x y => k x ≤ k y
  | [], _ => by simp [insK]
  | b :: l, h => by
    unfold insK
    rw [List.pairwise_cons] at h
    split
    · rename_i hab
      refine List.pairwise_cons.2 ⟨fun x hx => ?_, List.pairwise_cons.2 h⟩
      rcases List.mem_cons.1 hx with rfl | hx
      · exact hab
      · exact Nat.le_trans hab (h.1 x hx)
    · rename_i hab
      refine List.pairwise_cons.2 ⟨fun x hx => ?_, insK_sorted a l h.2⟩
      rcases List.mem_cons.1 ((insK_perm a l).mem_iff.1 hx) with rfl | hx
      · omega
      · exact h.1 x hx
theorem isortK_sorted : ∀ l, (isortK k l).Pairwise fun x y => k x ≤ k y
  | [] => .nil
  | a :: l => insK_sorted a _ (isortK_sorted l)
theorem sorted_uniq (inj : ∀ x y, k x = k y → x = y) : ∀ l1 l2 : List α, l1.Perm l2 → l1.Pairwise (fun x y => k x ≤ k y) → l2.Pairwise (fun x y => k x ≤ k y) → l1 = l2
  | [], l2, h, _, _ => (List.nil_perm.1 h).symm
  | a :: l1, [], h, _, _ => by have := h.length_eq; simp at this
  | a :: l1, b :: l2, h, h1, h2 => by
    rw [List.pairwise_cons] at h1 h2
    have e : a = b := by
      refine inj a b (Nat.le_antisymm ?_ ?_)
      · rcases List.mem_cons.1 (h.mem_iff.2 (List.mem_cons_self (a := b) (l := l2))) with rfl | hb
        · exact Nat.le_refl _
        · exact h1.1 b hb
      · rcases List.mem_cons.1 (h.mem_iff.1 (List.mem_cons_self (a := a) (l := l1))) with rfl | ha
        · exact Nat.le_refl _
        · exact h2.1 a ha
    subst e
    rw [sorted_uniq inj l1 l2 (List.Perm.cons_inv h) h1.2 h2.2]
theorem isortK_eq (inj : ∀ x y, k x = k y → x = y) {lt : α → α → Bool} (hlt : ∀ x y, lt x y = true ↔ k x < k y) (l : List α) : l.mergeSort (fun x y => !lt y x) = isortK k l := by
  have hle : ∀ x y, (!lt y x) = true ↔ k x ≤ k y := by
    intro x y
    have := hlt y x
    cases h : lt y x <;> simp [h] at this ⊢ <;> omega
  refine sorted_uniq inj _ _ ((List.mergeSort_perm l _).trans (isortK_perm l).symm) ?_ (isortK_sorted l)
  have := List.pairwise_mergeSort (le := fun x y => !lt y x) (fun a b c h1 h2 => (hle _ _).2 (Nat.le_trans ((hle _ _).1 h1) ((hle _ _).1 h2))) (fun a b => by
    rcases Nat.le_total (k a) (k b) with h | h
    · rw [(hle a b).2 h]; rfl
    · rw [(hle b a).2 h, Bool.or_true]) l
  exact this.imp fun h => (hle _ _).1 h
end
end Go.Abs
namespace Go.Abs
/-- y is a part of x -/
def sub (y x : BitVec 16) : Bool := (y &&& ~~~x) == 0#16
theorem sub_iff {x y : BitVec 16} : sub y x = true ↔ ∀ i, i < 16 → y.getLsbD i = true → x.getLsbD i = true := by
  unfold sub
  rw [beq_iff_eq]
  constructor
  · intro h i hi hy
    have h1 := congrArg (fun z => z.getLsbD i) h
    rw [BitVec.getLsbD_eq_getElem hi] at hy ⊢
    simp [hi] at h1
    exact h1 hy
  · intro h
    apply BitVec.eq_of_getLsbD_eq
    intro i hi
    have := h i hi
    simp only [BitVec.getLsbD_eq_getElem hi] at this
    simp [hi]
    exact this
theorem sub_refl (x : BitVec 16) : sub x x = true := sub_iff.2 fun _ _ h => h
theorem key_lt (x : BitVec 16) : key x < 2000000 := by
  have := bsum_le x.toNat 16 0
  have := x.isLt
  unfold key sz; omega
theorem key_inj' {x y : BitVec 16} (h : key x = key y) : x = y := by
  have h1 := x.isLt
  have h2 := y.isLt
  unfold key at h
  exact BitVec.eq_of_toNat_eq (by omega)

/-- neighbours that are equal, once -/
def ddS {α : Type} [DecidableEq α] (acc : List α) (a : α) : List α := if acc.getLast? = some a then acc else acc ++ [a]
def dd {α : Type} [DecidableEq α] (l : List α) : List α := l.foldl ddS []
section
variable {α : Type} [DecidableEq α]
theorem ddS_last (acc : List α) (a : α) : (ddS acc a).getLast? = some a := by
  unfold ddS; split
  · assumption
  · simp
theorem dd_snoc (l : List α) (a : α) : dd (l ++ [a]) = ddS (dd l) a := by simp [dd]
theorem dd_last (l : List α) : (dd l).getLast? = l.getLast? := by
  rcases List.eq_nil_or_concat l with rfl | ⟨l', a, rfl⟩
  · rfl
  · rw [List.concat_eq_append, dd_snoc, ddS_last]; simp
theorem dd_len (l : List α) : (dd l).length ≤ l.length := by
  suffices H : ∀ (l acc : List α), (l.foldl ddS acc).length ≤ acc.length + l.length by simpa [dd] using H l []
  intro l
  induction l with
  | nil => intro acc; simp
  | cons a l ih =>
    intro acc
    have := ih (ddS acc a)
    have h2 : (ddS acc a).length ≤ acc.length + 1 := by unfold ddS; split <;> simp
    simp only [List.foldl_cons, List.length_cons]; omega
theorem dd_mem (a : α) : ∀ l : List α, a ∈ dd l ↔ a ∈ l := by
  suffices H : ∀ (l acc : List α), a ∈ l.foldl ddS acc ↔ a ∈ acc ∨ a ∈ l by intro l; simpa [dd] using H l []
  intro l
  induction l with
  | nil => intro acc; simp
  | cons b l ih =>
    intro acc
    rw [List.foldl_cons, ih]
    have : a ∈ ddS acc b ↔ a ∈ acc ∨ a = b := by
      unfold ddS; split
      · rename_i h
        have := List.mem_of_getLast? h
        constructor
        · exact .inl
        · rintro (h | rfl)
          · exact h
          · exact this
      · simp
    rw [this, List.mem_cons]
    constructor
    · rintro ((h | h) | h) <;> simp [h]
    · rintro (h | h | h) <;> simp [h]
end
theorem pairwise_snoc {α : Type} {R : α → α → Prop} {l : List α} {a : α} : (l ++ [a]).Pairwise R ↔ l.Pairwise R ∧ ∀ b ∈ l, R b a := by
  rw [List.pairwise_append]
  simp
theorem dd_strict {α : Type} [DecidableEq α] {k : α → Nat} (inj : ∀ x y, k x = k y → x = y) : ∀ n (l : List α), l.length = n → l.Pairwise (fun x y => k x ≤ k y) → (dd l).Pairwise fun x y => k x < k y
  | 0, l, hn, _ => by rw [List.length_eq_zero_iff.1 hn]; exact .nil
  | n + 1, l, hn, h => by
    rcases List.eq_nil_or_concat l with rfl | ⟨l', a, rfl⟩
    · exact .nil
    rw [List.concat_eq_append] at h hn ⊢
    rw [pairwise_snoc] at h
    have ih := dd_strict inj n l' (by simpa using hn) h.1
    rw [dd_snoc]
    unfold ddS
    split
    · exact ih
    · rename_i hne
      refine pairwise_snoc.2 ⟨ih, fun b hb => ?_⟩
      have hb' := (dd_mem b l').1 hb
      have hle := h.2 b hb'
      rcases Nat.lt_or_ge (k b) (k a) with h1 | h1
      · exact h1
      · exfalso
        have hba : b = a := inj _ _ (by omega)
        subst hba
        -- the last one is not less than b
        apply hne
        cases hl : (dd l').getLast? with
        | none => rw [List.getLast?_eq_none_iff.1 hl] at hb; cases hb
        | some c =>
          obtain ⟨p, hp⟩ := List.getLast?_eq_some_iff.1 hl
          rw [hp] at hb ih
          rcases List.mem_append.1 hb with h3 | h3
          · have h4 := (pairwise_snoc.1 ih).2 b h3
            have h5 : c ∈ l' := (dd_mem c l').1 (by rw [hp]; simp)
            have := h.2 c h5
            omega
          · simp at h3; rw [h3]
theorem strict_uniq {α : Type} {k : α → Nat} (inj : ∀ x y, k x = k y → x = y) : ∀ l1 l2 : List α, (∀ a, a ∈ l1 ↔ a ∈ l2) → l1.Pairwise (fun x y => k x < k y) → l2.Pairwise (fun x y => k x < k y) → l1 = l2
  | [], [], _, _, _ => rfl
  | [], b :: l2, h, _, _ => by have := (h b).2 (List.mem_cons_self ..); cases this
  | a :: l1, [], h, _, _ => by have := (h a).1 (List.mem_cons_self ..); cases this
  | a :: l1, b :: l2, h, h1, h2 => by
    rw [List.pairwise_cons] at h1 h2
    have e : a = b := by
      rcases List.mem_cons.1 ((h a).1 (List.mem_cons_self ..)) with e | ha
      · exact e
      · rcases List.mem_cons.1 ((h b).2 (List.mem_cons_self ..)) with e | hb
        · exact e.symm
        · have := h1.1 b hb; have := h2.1 a ha; omega
    subst e
    rw [strict_uniq inj l1 l2 (fun c => ?_) h1.2 h2.2]
    have := h c
    constructor
    · intro hc
      rcases List.mem_cons.1 (this.1 (List.mem_cons_of_mem _ hc)) with rfl | h3
      · have := h1.1 c hc; omega
      · exact h3
    · intro hc
      rcases List.mem_cons.1 (this.2 (List.mem_cons_of_mem _ hc)) with rfl | h3
      · have := h2.1 c hc; omega
      · exact h3
/-- the sets of a list in order, each once -/
def srt (l : List (BitVec 16)) : List (BitVec 16) := dd (isortK key l)
theorem srt_sorted (l : List (BitVec 16)) : (srt l).Pairwise fun x y => key x < key y := dd_strict (fun _ _ => key_inj') _ _ rfl (isortK_sorted l)
theorem mem_srt (a : BitVec 16) (l : List (BitVec 16)) : a ∈ srt l ↔ a ∈ l := (dd_mem a _).trans (isortK_perm l).mem_iff
theorem srt_len (l : List (BitVec 16)) : (srt l).length ≤ l.length := Nat.le_trans (dd_len _) (Nat.le_of_eq (isortK_perm l).length_eq)

end Go.Abs
namespace Go.Abs
/-- what a list accepts -/
def acc (l : List (BitVec 16)) (t : BitVec 16) : Bool := l.any fun y => sub y t
end Go.Abs
namespace Go.Abs
/-- a place in a strictly ascending list -/
theorem strict_insert {α : Type} {k : α → Nat} (inj : ∀ x y, k x = k y → x = y) (out : List α) (x d : α) (m : Nat) (hm : m ≤ out.length) (hs : out.Pairwise fun a b => k a < k b)
    (h1 : ∀ j, j < m → k (out.getD j d) < k x) (h2 : m < out.length → ¬ k (out.getD m d) < k x) (hx : x ∉ out) : (out.take m ++ x :: out.drop m).Pairwise fun a b => k a < k b := by
  rw [List.pairwise_append]
  have hp := hs
  rw [← List.take_append_drop m out, List.pairwise_append] at hp
  have hbefore : ∀ a, a ∈ out.take m → k a < k x := by
    intro a ha
    obtain ⟨j, hj, rfl⟩ := List.getElem_of_mem ha
    simp at hj
    have := h1 j (by omega)
    have h3 : j < out.length := by omega
    simpa [List.getD_eq_getElem?_getD, h3] using this
  have hafter : ∀ a, a ∈ out.drop m → k x < k a := by
    intro a ha
    have hal := List.mem_of_mem_drop ha
    obtain ⟨j, hj, rfl⟩ := List.getElem_of_mem ha
    have hj' : j < out.length - m := by simpa using hj
    rw [List.getElem_drop] at hal ⊢
    have h3 : m + j < out.length := by omega
    have hm' : m < out.length := by omega
    have e0 : out.getD m d = out[m] := by simp [List.getD_eq_getElem?_getD, hm']
    have hm2 := h2 hm'
    rw [e0] at hm2
    have hge : k out[m] ≤ k out[m + j] := by
      by_cases e : j = 0
      · subst e; exact Nat.le_refl _
      · exact Nat.le_of_lt (List.pairwise_iff_getElem.1 hs m (m + j) hm' h3 (by omega))
    rcases Nat.lt_or_ge (k x) (k out[m + j]) with h4 | h4
    · exact h4
    · have : k x = k out[m + j] := by omega
      rw [inj _ _ this] at hx
      exact absurd (List.getElem_mem h3) hx
  refine ⟨hp.1, List.pairwise_cons.2 ⟨hafter, hp.2.1⟩, fun a ha b hb => ?_⟩
  rcases List.mem_cons.1 hb with rfl | hb
  · exact hbefore a ha
  · exact hp.2.2 a ha b hb
theorem mem_insert_at {α : Type} (out : List α) (x a : α) (m : Nat) : a ∈ out.take m ++ x :: out.drop m ↔ a = x ∨ a ∈ out := by
  have hm' : a ∈ out ↔ a ∈ out.take m ∨ a ∈ out.drop m := by rw [← List.mem_append, List.take_append_drop]
  simp only [List.mem_append, List.mem_cons]
  rw [hm']
  constructor
  · rintro (h | h | h) <;> simp [h]
  · rintro (h | h | h) <;> simp [h]

abbrev Flt := BitVec 16 × BitVec 16
def ftyS (a : Flt) : BitVec 16 := a.1 ||| a.2
/-- b covers a -/
def cov (b a : Flt) : Bool := sub a.1 b.1 && sub (ftyS a) (ftyS b)
def keyF (a : Flt) : Nat := key a.1 * 2000000 + key a.2
theorem keyF_inj {a b : Flt} (h : keyF a = keyF b) : a = b := by
  have h1 := key_lt a.1
  have h2 := key_lt a.2
  have h3 := key_lt b.1
  have h4 := key_lt b.2
  unfold keyF at h
  have e1 : key a.1 = key b.1 := by omega
  have e2 : key a.2 = key b.2 := by omega
  exact Prod.ext (key_inj' e1) (key_inj' e2)
theorem cov_refl (a : Flt) : cov a a = true := by unfold cov; rw [sub_refl, sub_refl]; rfl
def srtF (l : List Flt) : List Flt := dd (isortK keyF l)
theorem srtF_sorted (l : List Flt) : (srtF l).Pairwise fun x y => keyF x < keyF y := dd_strict (fun _ _ => keyF_inj) _ _ rfl (isortK_sorted l)
theorem mem_srtF (a : Flt) (l : List Flt) : a ∈ srtF l ↔ a ∈ l := (dd_mem a _).trans (isortK_perm l).mem_iff
theorem srtF_len (l : List Flt) : (srtF l).length ≤ l.length := Nat.le_trans (dd_len _) (Nat.le_of_eq (isortK_perm l).length_eq)
/-- no other one covers it -/
def undF (l : List Flt) (a : Flt) : Bool := !(l.any fun b => a != b && cov b a)
theorem undF_iff {l : List Flt} {a : Flt} : undF l a = true ↔ ∀ b, b ∈ l → a ≠ b → cov b a = false := by
  simp [undF, List.any_eq_false]
def normP (l : List Flt) : List Flt := (srtF l).filter (undF (srtF l))
theorem mem_normP (l : List Flt) (a : Flt) : a ∈ normP l ↔ a ∈ l ∧ ∀ b, b ∈ l → a ≠ b → cov b a = false := by
  unfold normP
  rw [List.mem_filter, mem_srtF, undF_iff]
  constructor
  · rintro ⟨h1, h2⟩; exact ⟨h1, fun b hb => h2 b ((mem_srtF b l).2 hb)⟩
  · rintro ⟨h1, h2⟩; exact ⟨h1, fun b hb => h2 b ((mem_srtF b l).1 hb)⟩
theorem normP_strict (l : List Flt) : (normP l).Pairwise fun x y => keyF x < keyF y := List.Pairwise.filter _ (srtF_sorted l)
theorem normP_len (l : List Flt) : (normP l).length ≤ l.length := Nat.le_trans (List.length_filter_le _ _) (srtF_len l)
end Go.Abs
namespace Go.Abs
theorem chk_pos {p : Prop} [Decidable p] {α : Type} {x : Option α} (h : p) : chk p x = x := if_pos h
theorem ifd_pos {p : Prop} [Decidable p] {α : Type} {x y : α} (h : p) : (if decide p = true then x else y) = x := if_pos (decide_eq_true h)
theorem ifd_neg {p : Prop} [Decidable p] {α : Type} {x y : α} (h : ¬ p) : (if decide p = true then x else y) = y := if_neg (by simpa using h)
theorem jn_eq {α β : Type} (K : α → Option β) (x : (α → Option β) → Option β) : jn K x = x K := rfl
theorem optc_t {α β : Type} [Inhabited α] {x : Option α} {k : α → Option β} : optc true x k = x.bind k := rfl
theorem optc_f {α β : Type} [Inhabited α] {x : Option α} {k : α → Option β} : optc false x k = k default := rfl
theorem some_bind {α β : Type} (a : α) (f : α → Option β) : (some a).bind f = f a := rfl
theorem abc_eq {α : Type} [DecidableEq α] {q : Prop} [Decidable q] {x y : Option α} (h : q → x = y) : abc q x y = y := by
  unfold abc both
  split
  · rename_i hq; rw [h hq]; simp
  · rfl
theorem fuel_lt {n : Nat} (h : n ≤ 18446744073709551615) : n < FUEL := by unfold FUEL; omega
theorem getD_drop {α : Type} (x : List α) (n : Nat) (d : α) (h : n < x.length) : x.drop n = x.getD n d :: x.drop (n + 1) := by
  rw [List.drop_eq_getElem_cons h]
  simp [List.getD_eq_getElem?_getD, h]
/-- .. without ways out. -/
theorem fold_up {α S R : Type} (L : Nat → Nat × S → Option R) (x : List α) (d : α) (Inv : Nat → S → Prop) (g : S → α → S) (K : S → Option R)
    (h : ∀ k n s, n < x.length → Inv n s → L (k + 1) (n, s) = L k (n + 1, g s (x.getD n d)))
    (hI : ∀ n s, n < x.length → Inv n s → Inv (n + 1) (g s (x.getD n d)))
    (he : ∀ k s, Inv x.length s → L (k + 1) (x.length, s) = K s) : ∀ c k n s, n + c = x.length → c < k → Inv n s → L k (n, s) = K ((x.drop n).foldl g s)
  | 0, k, n, s, hn, hk, hi => by
    obtain ⟨k, rfl⟩ : ∃ q, k = q + 1 := ⟨k - 1, by omega⟩
    obtain rfl : n = x.length := by omega
    rw [he k s hi, List.drop_eq_nil_of_le (Nat.le_refl _)]; rfl
  | c + 1, k, n, s, hn, hk, hi => by
    obtain ⟨k, rfl⟩ : ∃ q, k = q + 1 := ⟨k - 1, by omega⟩
    have hlt : n < x.length := by omega
    rw [h k n s hlt hi, getD_drop x n d hlt]
    exact fold_up L x d Inv g K h hI he c k (n + 1) _ (by omega) (by omega) (hI n s hlt hi)
/-- A search: the first element of which p holds. -/
theorem find_up {α R : Type} (L : Nat → Nat → Option R) (x : List α) (d : α) (p : α → Bool) (r : Nat → Option R) (K : Option R)
    (h : ∀ k n, n < x.length → L (k + 1) n = if p (x.getD n d) = true then r n else L k (n + 1))
    (he : ∀ k, L (k + 1) x.length = K) : ∀ c k n, n + c = x.length → c < k →
      (∃ m, n ≤ m ∧ m < x.length ∧ p (x.getD m d) = true ∧ L k n = r m ∧ (x.drop n).any p = true) ∨ (L k n = K ∧ (x.drop n).any p = false)
  | 0, k, n, hn, hk => by
    obtain ⟨k, rfl⟩ : ∃ q, k = q + 1 := ⟨k - 1, by omega⟩
    obtain rfl : n = x.length := by omega
    exact .inr ⟨he k, by rw [List.drop_eq_nil_of_le (Nat.le_refl _)]; rfl⟩
  | c + 1, k, n, hn, hk => by
    obtain ⟨k, rfl⟩ : ∃ q, k = q + 1 := ⟨k - 1, by omega⟩
    have hlt : n < x.length := by omega
    rw [h k n hlt, getD_drop x n d hlt]
    by_cases hp : p (x.getD n d) = true
    · rw [if_pos hp]; exact .inl ⟨n, Nat.le_refl _, hlt, hp, rfl, by rw [List.any_cons, hp]; rfl⟩
    · rw [if_neg hp]
      have hp' : p (x.getD n d) = false := by simpa using hp
      rw [List.any_cons, hp', Bool.false_or]
      rcases find_up L x d p r K h he c k (n + 1) (by omega) (by omega) with ⟨m, h1, h2⟩ | h2
      · exact .inl ⟨m, by omega, h2⟩
      · exact .inr h2
/-- .. of which only is asked whether there is one. -/
theorem any_up {α R : Type} (L : Nat → Nat → Option R) (x : List α) (d : α) (p : α → Bool) (r : Option R) (K : Option R)
    (h : ∀ k n, n < x.length → L (k + 1) n = if p (x.getD n d) = true then r else L k (n + 1))
    (he : ∀ k, L (k + 1) x.length = K) (k : Nat) (hk : x.length < k) : L k 0 = if x.any p = true then r else K := by
  rcases find_up L x d p (fun _ => r) K h he x.length k 0 (by omega) hk with ⟨m, _, _, _, h1, h2⟩ | ⟨h1, h2⟩
  · rw [h1, if_pos (by simpa using h2)]
  · rw [h1, if_neg (by simpa using h2)]
end Go.Abs
namespace Go.Abs
theorem bit_01 (x j : Nat) : x / 2 ^ j % 2 = 0 ∨ x / 2 ^ j % 2 = 1 := by omega
def memP (x p : Nat) : List Nat := (List.range p).filter fun i => decide (x / 2 ^ i % 2 = 1)
/-! ### sets of servers -/
theorem bitB (x : BitVec 16) (j : Nat) : x.toNat / 2 ^ j % 2 = if x.getLsbD j = true then 1 else 0 := by
  have e : x.getLsbD j = x.toNat.testBit j := rfl
  rw [e, Nat.testBit_eq_decide_div_mod_eq]
  have := bit_01 x.toNat j
  by_cases h : x.toNat / 2 ^ j % 2 = 1
  · simp [h]
  · simp [h]; omega
end Go.Abs
