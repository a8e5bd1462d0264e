/- Lists of sets: sorted ones, minimal and maximal members. -/
import Derived.Test.YtmcmhjdmilgoeaaGreatDoorPure1
import Derived.Test.YtmcmhjdmilgoeaaGreatDoorSrt2
namespace Go.Abs
/-- y is a part of x -/
def sub (y x : BitVec 16) : Bool := (y &&& ~~~x) == 0#16
theorem bsum_mono {m n : Nat} : ∀ (c i : Nat), (∀ j, i ≤ j → j < i + c → m / 2 ^ j % 2 ≤ n / 2 ^ j % 2) → bsum m i c ≤ bsum n i c ∧ (bsum m i c = bsum n i c → ∀ j, i ≤ j → j < i + c → m / 2 ^ j % 2 = n / 2 ^ j % 2)
  | 0, i, _ => ⟨Nat.le_refl _, fun _ j h1 h2 => by omega⟩
  | c + 1, i, h => by
    obtain ⟨h1, h2⟩ := bsum_mono c (i + 1) fun j a b => h j (by omega) (by omega)
    have h3 := h i (Nat.le_refl _) (by omega)
    simp only [bsum]
    refine ⟨by omega, fun e j a b => ?_⟩
    by_cases hj : j = i
    · subst hj; omega
    · exact h2 (by omega) j (by omega) (by omega)
theorem sub_bits {x y : BitVec 16} (h : sub y x = true) (j : Nat) (hj : j < 16) : y.toNat / 2 ^ j % 2 ≤ x.toNat / 2 ^ j % 2 := by
  unfold sub at h
  rw [beq_iff_eq] at h
  have h1 := congrArg (fun z => z.getLsbD j) h
  simp [hj] at h1
  have hy : y[j] = y.toNat.testBit j := rfl
  have hx : x[j] = x.toNat.testBit j := rfl
  rw [hy, hx] at h1
  rw [Nat.testBit_eq_decide_div_mod_eq, Nat.testBit_eq_decide_div_mod_eq] at h1
  simp at h1
  have a := Nat.mod_lt (y.toNat / 2 ^ j) (show 0 < 2 by decide)
  have b := Nat.mod_lt (x.toNat / 2 ^ j) (show 0 < 2 by decide)
  omega
theorem sub_sz {x y : BitVec 16} (h : sub y x = true) : sz y ≤ sz x ∧ (sz y = sz x → y = x) := by
  obtain ⟨h1, h2⟩ := bsum_mono (m := y.toNat) (n := x.toNat) 16 0 fun j _ hj => sub_bits h j (by omega)
  refine ⟨h1, fun e => ?_⟩
  apply BitVec.eq_of_toNat_eq
  apply Nat.eq_of_testBit_eq
  intro i
  by_cases hi : i < 16
  · rw [Nat.testBit_eq_decide_div_mod_eq, Nat.testBit_eq_decide_div_mod_eq, h2 e i (by omega) (by omega)]
  · rw [Nat.testBit_lt_two_pow (Nat.lt_of_lt_of_le y.isLt (Nat.pow_le_pow_right (n := 2) (by decide) (by omega))), Nat.testBit_lt_two_pow (Nat.lt_of_lt_of_le x.isLt (Nat.pow_le_pow_right (n := 2) (by decide) (by omega)))]
theorem sub_iff {x y : BitVec 16} : sub y x = true ↔ ∀ i, i < 16 → y.getLsbD i = true → x.getLsbD i = true := by
  unfold sub
  rw [beq_iff_eq]
  constructor
  · intro h i hi hy
    have h1 := congrArg (fun z => z.getLsbD i) h
    rw [BitVec.getLsbD_eq_getElem hi] at hy ⊢
    simp [hi] at h1
    exact h1 hy
  · intro h
    apply BitVec.eq_of_getLsbD_eq
    intro i hi
    have := h i hi
    simp only [BitVec.getLsbD_eq_getElem hi] at this
    simp [hi]
    exact this
theorem sub_refl (x : BitVec 16) : sub x x = true := sub_iff.2 fun _ _ h => h
theorem sub_trans {x y z : BitVec 16} (h1 : sub x y = true) (h2 : sub y z = true) : sub x z = true := sub_iff.2 fun i hi h => sub_iff.1 h2 i hi (sub_iff.1 h1 i hi h)
theorem sub_key {x y : BitVec 16} (h : sub y x = true) (hne : y ≠ x) : key y < key x := by
  obtain ⟨h1, h2⟩ := sub_sz h
  have : sz y ≠ sz x := fun e => hne (h2 e)
  have hy := y.isLt
  unfold key; omega
theorem key_lt (x : BitVec 16) : key x < 2000000 := by
  have := bsum_le x.toNat 16 0
  have := x.isLt
  unfold key sz; omega
theorem key_inj' {x y : BitVec 16} (h : key x = key y) : x = y := by
  have h1 := x.isLt
  have h2 := y.isLt
  unfold key at h
  exact BitVec.eq_of_toNat_eq (by omega)

/-- neighbours that are equal, once -/
def ddS {α : Type} [DecidableEq α] (acc : List α) (a : α) : List α := if acc.getLast? = some a then acc else acc ++ [a]
def dd {α : Type} [DecidableEq α] (l : List α) : List α := l.foldl ddS []
section
variable {α : Type} [DecidableEq α]
theorem ddS_last (acc : List α) (a : α) : (ddS acc a).getLast? = some a := by
  unfold ddS; split
  · assumption
  · simp
theorem dd_snoc (l : List α) (a : α) : dd (l ++ [a]) = ddS (dd l) a := by simp [dd]
theorem dd_last (l : List α) : (dd l).getLast? = l.getLast? := by
  rcases List.eq_nil_or_concat l with rfl | ⟨l', a, rfl⟩
  · rfl
  · rw [List.concat_eq_append, dd_snoc, ddS_last]; simp
theorem dd_len (l : List α) : (dd l).length ≤ l.length := by
  suffices H : ∀ (l acc : List α), (l.foldl ddS acc).length ≤ acc.length + l.length by simpa [dd] using H l []
  intro l
  induction l with
  | nil => intro acc; simp
  | cons a l ih =>
    intro acc
    have := ih (ddS acc a)
    have h2 : (ddS acc a).length ≤ acc.length + 1 := by unfold ddS; split <;> simp
    simp only [List.foldl_cons, List.length_cons]; omega
theorem dd_mem (a : α) : ∀ l : List α, a ∈ dd l ↔ a ∈ l := by
  suffices H : ∀ (l acc : List α), a ∈ l.foldl ddS acc ↔ a ∈ acc ∨ a ∈ l by intro l; simpa [dd] using H l []
  intro l
  induction l with
  | nil => intro acc; simp
  | cons b l ih =>
    intro acc
    rw [List.foldl_cons, ih]
    have : a ∈ ddS acc b ↔ a ∈ acc ∨ a = b := by
      unfold ddS; split
      · rename_i h
        have := List.mem_of_getLast? h
        constructor
        · exact .inl
        · rintro (h | rfl)
          · exact h
          · exact this
      · simp
    rw [this, List.mem_cons]
    constructor
    · rintro ((h | h) | h) <;> simp [h]
    · rintro (h | h | h) <;> simp [h]
end
theorem pairwise_snoc {α : Type} {R : α → α → Prop} {l : List α} {a : α} : (l ++ [a]).Pairwise R ↔ l.Pairwise R ∧ ∀ b ∈ l, R b a := by
  rw [List.pairwise_append]
  simp
theorem dd_strict {α : Type} [DecidableEq α] {k : α → Nat} (inj : ∀ x y, k x = k y → x = y) : ∀ n (l : List α), l.length = n → l.Pairwise (fun x y => k x ≤ k y) → (dd l).Pairwise fun x y => k x < k y
  | 0, l, hn, _ => by rw [List.length_eq_zero_iff.1 hn]; exact .nil
  | n + 1, l, hn, h => by
    rcases List.eq_nil_or_concat l with rfl | ⟨l', a, rfl⟩
    · exact .nil
    rw [List.concat_eq_append] at h hn ⊢
    rw [pairwise_snoc] at h
    have ih := dd_strict inj n l' (by simpa using hn) h.1
    rw [dd_snoc]
    unfold ddS
    split
    · exact ih
    · rename_i hne
      refine pairwise_snoc.2 ⟨ih, fun b hb => ?_⟩
      have hb' := (dd_mem b l').1 hb
      have hle := h.2 b hb'
      rcases Nat.lt_or_ge (k b) (k a) with h1 | h1
      · exact h1
      · exfalso
        have hba : b = a := inj _ _ (by omega)
        subst hba
        -- the last one is not less than b
        apply hne
        cases hl : (dd l').getLast? with
        | none => rw [List.getLast?_eq_none_iff.1 hl] at hb; cases hb
        | some c =>
          obtain ⟨p, hp⟩ := List.getLast?_eq_some_iff.1 hl
          rw [hp] at hb ih
          rcases List.mem_append.1 hb with h3 | h3
          · have h4 := (pairwise_snoc.1 ih).2 b h3
            have h5 : c ∈ l' := (dd_mem c l').1 (by rw [hp]; simp)
            have := h.2 c h5
            omega
          · simp at h3; rw [h3]
theorem strict_uniq {α : Type} {k : α → Nat} (inj : ∀ x y, k x = k y → x = y) : ∀ l1 l2 : List α, (∀ a, a ∈ l1 ↔ a ∈ l2) → l1.Pairwise (fun x y => k x < k y) → l2.Pairwise (fun x y => k x < k y) → l1 = l2
  | [], [], _, _, _ => rfl
  | [], b :: l2, h, _, _ => by have := (h b).2 (List.mem_cons_self ..); cases this
  | a :: l1, [], h, _, _ => by have := (h a).1 (List.mem_cons_self ..); cases this
  | a :: l1, b :: l2, h, h1, h2 => by
    rw [List.pairwise_cons] at h1 h2
    have e : a = b := by
      rcases List.mem_cons.1 ((h a).1 (List.mem_cons_self ..)) with e | ha
      · exact e
      · rcases List.mem_cons.1 ((h b).2 (List.mem_cons_self ..)) with e | hb
        · exact e.symm
        · have := h1.1 b hb; have := h2.1 a ha; omega
    subst e
    rw [strict_uniq inj l1 l2 (fun c => ?_) h1.2 h2.2]
    have := h c
    constructor
    · intro hc
      rcases List.mem_cons.1 (this.1 (List.mem_cons_of_mem _ hc)) with rfl | h3
      · have := h1.1 c hc; omega
      · exact h3
    · intro hc
      rcases List.mem_cons.1 (this.2 (List.mem_cons_of_mem _ hc)) with rfl | h3
      · have := h2.1 c hc; omega
      · exact h3
/-- the sets of a list in order, each once -/
def srt (l : List (BitVec 16)) : List (BitVec 16) := dd (isortK key l)
theorem srt_sorted (l : List (BitVec 16)) : (srt l).Pairwise fun x y => key x < key y := dd_strict (fun _ _ => key_inj') _ _ rfl (isortK_sorted l)
theorem mem_srt (a : BitVec 16) (l : List (BitVec 16)) : a ∈ srt l ↔ a ∈ l := (dd_mem a _).trans (isortK_perm l).mem_iff
theorem srt_len (l : List (BitVec 16)) : (srt l).length ≤ l.length := Nat.le_trans (dd_len _) (Nat.le_of_eq (isortK_perm l).length_eq)

/-- taken one by one, if none before it dominates -/
def greedy {α : Type} (T : α → α → Bool) (s : List α) : List α := s.foldl (fun out a => if out.any (fun y => T y a) then out else out ++ [a]) []
def undom {α : Type} [DecidableEq α] (T : α → α → Bool) (s : List α) (a : α) : Bool := !(s.any fun b => b != a && T b a)
theorem undom_iff {α : Type} [DecidableEq α] {T : α → α → Bool} {s : List α} {a : α} : undom T s a = true ↔ ∀ b, b ∈ s → b ≠ a → T b a = false := by
  simp [undom, List.any_eq_false]
theorem greedy_eq {α : Type} [DecidableEq α] (T : α → α → Bool) (ord : α → Nat) (tr : ∀ x y z, T x y = true → T y z = true → T x z = true) (hT : ∀ x y, T x y = true → x ≠ y → ord x < ord y) (s : List α) (hs : s.Pairwise fun x y => ord x < ord y) :
    greedy T s = s.filter (undom T s) := by
  have down : ∀ n a b, ord b ≤ n → b ∈ s → b ≠ a → T b a = true → ∃ c, c ∈ s ∧ c ≠ a ∧ T c a = true ∧ undom T s c = true := by
    intro n
    induction n with
    | zero =>
      intro a b hb hbs hba hT'
      refine ⟨b, hbs, hba, hT', undom_iff.2 fun c hc hcb => ?_⟩
      cases h : T c b with
      | false => rfl
      | true => have := hT c b h hcb; omega
    | succ n ih =>
      intro a b hb hbs hba hT'
      cases hu : undom T s b with
      | true => exact ⟨b, hbs, hba, hT', hu⟩
      | false =>
        have : ∃ c, c ∈ s ∧ c ≠ b ∧ T c b = true := by
          simp [undom] at hu
          exact hu
        obtain ⟨c, h1, h2, h3⟩ := this
        have h4 := hT c b h3 h2
        have h5 := hT b a hT' hba
        exact ih a c (by omega) h1 (fun e => by subst e; omega) (tr _ _ _ h3 hT')
  suffices H : ∀ p q : List α, s = p ++ q → greedy T p = p.filter (undom T s) by exact H s [] (by simp)
  intro p
  suffices H : ∀ n (p : List α), p.length = n → ∀ q, s = p ++ q → greedy T p = p.filter (undom T s) by exact H p.length p rfl
  intro n
  induction n with
  | zero => intro p hp q _; rw [List.length_eq_zero_iff.1 hp]; rfl
  | succ n ih =>
    intro p hp q hq
    rcases List.eq_nil_or_concat p with rfl | ⟨p', a, rfl⟩
    · simp at hp
    rw [List.concat_eq_append] at hq hp ⊢
    have e := ih p' (by simpa using hp) ([a] ++ q) (by rw [hq]; simp)
    have hg : greedy T (p' ++ [a]) = if (greedy T p').any (fun y => T y a) then greedy T p' else greedy T p' ++ [a] := by simp [greedy]
    rw [hg, e, List.filter_append]
    have hpa : ∀ b, b ∈ p' → ord b < ord a := by
      rw [hq] at hs
      exact (pairwise_snoc.1 (List.pairwise_append.1 hs).1).2
    have has : a ∈ s := by rw [hq]; simp
    have hafter : ∀ b, b ∈ s → ord b < ord a → b ∈ p' := by
      intro b hb hlt
      rw [hq] at hb hs
      rcases List.mem_append.1 hb with h1 | h1
      · rcases List.mem_append.1 h1 with h2 | h2
        · exact h2
        · simp at h2; subst h2; omega
      · have := (List.pairwise_append.1 hs).2.2 a (by simp) b h1; omega
    have hkey : (p'.filter (undom T s)).any (fun y => T y a) = !(undom T s a) := by
      rw [Bool.eq_iff_iff]
      constructor
      · intro h
        obtain ⟨b, hb, hTb⟩ := List.any_eq_true.1 h
        have hb' := (List.mem_filter.1 hb).1
        have hne : b ≠ a := fun e => by have := hpa b hb'; subst e; omega
        have hbs : b ∈ s := by rw [hq]; simp [hb']
        cases hu : undom T s a with
        | false => rfl
        | true => have := undom_iff.1 hu b hbs hne; rw [this] at hTb; cases hTb
      · intro h
        have hu : undom T s a = false := by simpa using h
        have : ∃ c, c ∈ s ∧ c ≠ a ∧ T c a = true := by
          simp [undom] at hu
          exact hu
        obtain ⟨c, h1, h2, h3⟩ := this
        obtain ⟨b, h4, h5, h6, h7⟩ := down _ a c (Nat.le_refl _) h1 h2 h3
        exact List.any_eq_true.2 ⟨b, List.mem_filter.2 ⟨hafter b h4 (hT b a h6 h5), h7⟩, h6⟩
    rw [hkey]
    cases hu : undom T s a with
    | true => simp [hu]
    | false => simp [hu]
/-- the minimal sets -/
def leastP (l : List (BitVec 16)) : List (BitVec 16) := greedy (fun y a => sub y a) (srt l)
theorem leastP_eq (l : List (BitVec 16)) : leastP l = (srt l).filter (undom (fun y a => sub y a) (srt l)) :=
  greedy_eq (fun y a => sub y a) key (fun _ _ _ h1 h2 => sub_trans h1 h2) (fun _ _ h hne => sub_key h hne) _ (srt_sorted l)
/-- the maximal sets -/
def greatestP (l : List (BitVec 16)) : List (BitVec 16) := (greedy (fun y a => sub a y) (srt l).reverse).reverse
theorem greatestP_eq (l : List (BitVec 16)) : greatestP l = (srt l).filter (undom (fun y a => sub a y) (srt l)) := by
  unfold greatestP
  rw [greedy_eq (fun y a => sub a y) (fun x => 2000000 - key x) (fun _ _ _ h1 h2 => sub_trans h2 h1) (fun x y h hne => by
    have := sub_key h (Ne.symm hne)
    have := key_lt x
    have := key_lt y
    omega) _ (by
    rw [List.pairwise_reverse]
    exact (srt_sorted l).imp fun {a b} h => by have := key_lt a; have := key_lt b; omega)]
  rw [List.filter_reverse, List.reverse_reverse]
  congr 1
  funext a
  simp [undom]
end Go.Abs
