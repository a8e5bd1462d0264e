/- Families as monotone systems. -/
import Derived.Test.YtmcmhjdmilgoeaaGreatDoorFam
namespace Go.Abs
/-- what a list accepts -/
def acc (l : List (BitVec 16)) (t : BitVec 16) : Bool := l.any fun y => sub y t
theorem acc_iff {l : List (BitVec 16)} {t : BitVec 16} : acc l t = true ↔ ∃ y, y ∈ l ∧ sub y t = true := List.any_eq_true
theorem acc_mono {l : List (BitVec 16)} {s t : BitVec 16} (h : acc l s = true) (hs : sub s t = true) : acc l t = true := by
  obtain ⟨y, h1, h2⟩ := acc_iff.1 h
  exact acc_iff.2 ⟨y, h1, sub_trans h2 hs⟩
theorem acc_congr {l l' : List (BitVec 16)} (h : ∀ a, a ∈ l ↔ a ∈ l') (t : BitVec 16) : acc l t = acc l' t := by
  rw [Bool.eq_iff_iff, acc_iff, acc_iff]
  exact ⟨fun ⟨y, h1, h2⟩ => ⟨y, (h y).1 h1, h2⟩, fun ⟨y, h1, h2⟩ => ⟨y, (h y).2 h1, h2⟩⟩
theorem mem_leastP0 (l : List (BitVec 16)) (a : BitVec 16) : a ∈ leastP l ↔ a ∈ l ∧ ∀ b, b ∈ l → b ≠ a → sub b a = false := by
  rw [leastP_eq, List.mem_filter, mem_srt, undom_iff]
  constructor
  · rintro ⟨h1, h2⟩; exact ⟨h1, fun b hb hne => h2 b ((mem_srt b l).2 hb) hne⟩
  · rintro ⟨h1, h2⟩; exact ⟨h1, fun b hb hne => h2 b ((mem_srt b l).1 hb) hne⟩
/-- below every set is a minimal one -/
theorem least_below (l : List (BitVec 16)) (n : Nat) : ∀ a, key a ≤ n → a ∈ l → ∃ b, b ∈ leastP l ∧ sub b a = true := by
  induction n with
  | zero =>
    intro a hn ha
    refine ⟨a, (mem_leastP0 l a).2 ⟨ha, fun b _ hne => ?_⟩, sub_refl a⟩
    cases h : sub b a with
    | false => rfl
    | true => have := sub_key h hne; omega
  | succ n ih =>
    intro a hn ha
    by_cases h : ∃ b, b ∈ l ∧ b ≠ a ∧ sub b a = true
    · obtain ⟨b, h1, h2, h3⟩ := h
      have := sub_key h3 h2
      obtain ⟨c, h4, h5⟩ := ih b (by omega) h1
      exact ⟨c, h4, sub_trans h5 h3⟩
    · refine ⟨a, (mem_leastP0 l a).2 ⟨ha, fun b hb hne => ?_⟩, sub_refl a⟩
      cases h' : sub b a with
      | false => rfl
      | true => exact absurd ⟨b, hb, hne, h'⟩ h
theorem acc_least (l : List (BitVec 16)) (t : BitVec 16) : acc (leastP l) t = acc l t := by
  rw [Bool.eq_iff_iff, acc_iff, acc_iff]
  constructor
  · rintro ⟨y, h1, h2⟩; exact ⟨y, ((mem_leastP0 l y).1 h1).1, h2⟩
  · rintro ⟨y, h1, h2⟩
    obtain ⟨b, h3, h4⟩ := least_below l _ y (Nat.le_refl _) h1
    exact ⟨b, h3, sub_trans h4 h2⟩
theorem mem_leastP (l : List (BitVec 16)) (a : BitVec 16) : a ∈ leastP l ↔ acc l a = true ∧ ∀ b, sub b a = true → b ≠ a → acc l b = false := by
  rw [mem_leastP0]
  constructor
  · rintro ⟨h1, h2⟩
    refine ⟨acc_iff.2 ⟨a, h1, sub_refl a⟩, fun b hb hne => ?_⟩
    cases h : acc l b with
    | false => rfl
    | true =>
      obtain ⟨y, h3, h4⟩ := acc_iff.1 h
      have hya : y ≠ a := by
        rintro rfl
        have h5 := sub_sz hb
        have h6 := sub_sz h4
        exact hne (h5.2 (by omega))
      have := sub_trans h4 hb
      have h7 := h2 y h3 hya
      rw [this] at h7; cases h7
  · rintro ⟨h1, h2⟩
    obtain ⟨y, h3, h4⟩ := acc_iff.1 h1
    have hya : y = a := by
      refine Decidable.byContradiction fun hne => ?_
      have := h2 y h4 hne
      rw [acc_iff.2 ⟨y, h3, sub_refl y⟩] at this; cases this
    subst hya
    refine ⟨h3, fun b hb hne => ?_⟩
    cases h : sub b y with
    | false => rfl
    | true =>
      have := h2 b h hne
      rw [acc_iff.2 ⟨b, hb, sub_refl b⟩] at this; cases this
theorem filter_strict {l : List (BitVec 16)} {p : BitVec 16 → Bool} (h : l.Pairwise fun x y => key x < key y) : (l.filter p).Pairwise fun x y => key x < key y := List.Pairwise.filter p h
theorem leastP_strict (l : List (BitVec 16)) : (leastP l).Pairwise fun x y => key x < key y := by
  rw [leastP_eq]; exact filter_strict (srt_sorted l)
/-- one family for one system -/
theorem leastP_congr {l l' : List (BitVec 16)} (h : ∀ t, acc l t = acc l' t) : leastP l = leastP l' := by
  refine strict_uniq (k := key) (fun _ _ => key_inj') _ _ (fun a => ?_) (leastP_strict l) (leastP_strict l')
  rw [mem_leastP, mem_leastP]
  simp only [h]
theorem acc_append (l l' : List (BitVec 16)) (t : BitVec 16) : acc (l ++ l') t = (acc l t || acc l' t) := List.any_append
def prodS (f g : List (BitVec 16)) : List (BitVec 16) := f.flatMap fun x => g.map fun y => x ||| y
theorem sub_or (x y t : BitVec 16) : sub (x ||| y) t = (sub x t && sub y t) := by
  rw [Bool.eq_iff_iff, Bool.and_eq_true, sub_iff, sub_iff, sub_iff]
  constructor
  · intro h
    exact ⟨fun i hi hx => h i hi (by simp [hx]), fun i hi hx => h i hi (by simp [hx])⟩
  · rintro ⟨h1, h2⟩ i hi h
    rw [BitVec.getLsbD_or, Bool.or_eq_true] at h
    rcases h with h | h
    · exact h1 i hi h
    · exact h2 i hi h
theorem acc_prod (f g : List (BitVec 16)) (t : BitVec 16) : acc (prodS f g) t = (acc f t && acc g t) := by
  rw [Bool.eq_iff_iff, Bool.and_eq_true, acc_iff, acc_iff, acc_iff]
  constructor
  · rintro ⟨z, h1, h2⟩
    obtain ⟨x, hx, h3⟩ := List.mem_flatMap.1 h1
    obtain ⟨y, hy, rfl⟩ := List.mem_map.1 h3
    rw [sub_or, Bool.and_eq_true] at h2
    exact ⟨⟨x, hx, h2.1⟩, ⟨y, hy, h2.2⟩⟩
  · rintro ⟨⟨x, hx, h1⟩, ⟨y, hy, h2⟩⟩
    exact ⟨x ||| y, List.mem_flatMap.2 ⟨x, hx, List.mem_map.2 ⟨y, hy, rfl⟩⟩, by rw [sub_or, h1, h2]; rfl⟩
theorem bit_diff (x s : BitVec 16) (i : Nat) (hi : i < 16) : (x &&& ~~~s).getLsbD i = (x.getLsbD i && !s.getLsbD i) := by
  rw [BitVec.getLsbD_and, BitVec.getLsbD_not]; simp [hi]
theorem sub_diff (x s t : BitVec 16) : sub (x &&& ~~~s) t = sub x (s ||| t) := by
  rw [Bool.eq_iff_iff, sub_iff, sub_iff]
  constructor
  · intro h i hi hx
    have := h i hi
    rw [bit_diff x s i hi, hx, Bool.true_and] at this
    rw [BitVec.getLsbD_or]
    cases hs : s.getLsbD i with
    | true => rfl
    | false => rw [hs] at this; rw [this rfl]; rfl
  · intro h i hi hx
    rw [bit_diff x s i hi, Bool.and_eq_true] at hx
    have := h i hi hx.1
    rw [BitVec.getLsbD_or] at this
    cases hs : s.getLsbD i with
    | true => rw [hs] at hx; cases hx.2
    | false => rw [hs, Bool.false_or] at this; exact this
theorem sub_and (x s t : BitVec 16) : sub x (t &&& ~~~s) = (sub x t && ((x &&& s) == 0#16)) := by
  rw [Bool.eq_iff_iff, Bool.and_eq_true, sub_iff, sub_iff, beq_iff_eq]
  constructor
  · intro h
    refine ⟨fun i hi hx => ?_, ?_⟩
    · have := h i hi hx
      rw [bit_diff t s i hi, Bool.and_eq_true] at this; exact this.1
    · apply BitVec.eq_of_getLsbD_eq
      intro i hi
      have h1 := h i hi
      rw [bit_diff t s i hi, Bool.and_eq_true] at h1
      rw [BitVec.getLsbD_and]
      cases hx : x.getLsbD i with
      | false => simp
      | true =>
        have := (h1 hx).2
        simp at this
        rw [Bool.true_and]
        rw [this]; simp
  · rintro ⟨h1, h2⟩ i hi hx
    have h3 := congrArg (fun z => z.getLsbD i) h2
    simp only [BitVec.getLsbD_and, hx, Bool.true_and] at h3
    rw [bit_diff t s i hi, h1 i hi hx, h3]; simp
end Go.Abs
