/- slices.Compact on any list, from the steps of its loops. -/
import Derived.Test.YtmcmhjdmilgoeaaGreatDoorPl
import Derived.Test.YtmcmhjdmilgoeaaGreatDoorFam
namespace Go.Abs
section
variable {α : Type} [DecidableEq α]
/-- what the loop holds: the first m of the list done, n3 places kept -/
def CptI (d : α) (x l : List α) (n3 m : Nat) : Prop := l.length = x.length ∧ 0 < m ∧ m ≤ x.length ∧ n3 < m ∧ 0 < n3 ∧ l.take n3 = dd (x.take m) ∧ ∀ j, m ≤ j + 1 → l.getD j d = x.getD j d
theorem take_succ_gD {α : Type} (x : List α) (n : Nat) (d : α) (h : n < x.length) : x.take (n + 1) = x.take n ++ [x.getD n d] := by
  rw [List.take_add_one]
  simp [List.getD_eq_getElem?_getD, h]
theorem ddT_last (d : α) (x : List α) (m : Nat) (h0 : 0 < m) (hm : m ≤ x.length) : (dd (x.take m)).getLast? = some (x.getD (m - 1) d) := by
  rw [dd_last]
  obtain ⟨k, rfl⟩ : ∃ k, m = k + 1 := ⟨m - 1, by omega⟩
  rw [take_succ_gD x k d (by omega)]
  simp
theorem ddT_succ (d : α) (x : List α) (m : Nat) (h0 : 0 < m) (hm : m < x.length) : dd (x.take (m + 1)) = if x.getD m d = x.getD (m - 1) d then dd (x.take m) else dd (x.take m) ++ [x.getD m d] := by
  rw [take_succ_gD x m d hm, dd_snoc]
  unfold ddS
  rw [ddT_last d x m h0 (by omega)]
  by_cases h : x.getD m d = x.getD (m - 1) d
  · rw [if_pos h, if_pos (by rw [h])]
  · rw [if_neg h, if_neg (by intro e; exact h (Option.some.inj e).symm)]
theorem cpt_in {β : Type} (d : α) (x : List α) (n2 : Nat) (L : Nat → Nat × Nat × List α → Option β) (R : Option β) (hn2 : n2 < x.length) (h2 : 0 < n2)
    (hs : ∀ k n3 n4 l, n2 + n4 < x.length → l.length = x.length → n3 < n2 + n4 → 0 < n4 →
      L (k + 1) (n3, n4, l) = if l.getD (n2 + n4) d = l.getD (n2 + (n4 - 1)) d then L k (n3, n4 + 1, l) else L k (n3 + 1, n4 + 1, l.set n3 (l.getD (n2 + n4) d)))
    (hK : ∀ k n3 n4 l, n2 + n4 = x.length → CptI d x l n3 x.length → L (k + 1) (n3, n4, l) = R) : ∀ c k n3 n4 l, n2 + n4 + c = x.length → 0 < n4 → c < k → CptI d x l n3 (n2 + n4) → L k (n3, n4, l) = R
  | 0, k, n3, n4, l, hc, h4, hk, hi => by
    obtain ⟨k, rfl⟩ : ∃ q, k = q + 1 := ⟨k - 1, by omega⟩
    exact hK k _ _ _ (by omega) (by rw [show x.length = n2 + n4 by omega]; exact hi)
  | c + 1, k, n3, n4, l, hc, h4, hk, hi => by
    obtain ⟨k, rfl⟩ : ∃ q, k = q + 1 := ⟨k - 1, by omega⟩
    obtain ⟨i1, i2, i3, i4, i5, i6, i7⟩ := hi
    rw [hs k n3 n4 l (by omega) i1 i4 h4]
    have e1 := i7 (n2 + n4) (by omega)
    have e2 := i7 (n2 + (n4 - 1)) (by omega)
    rw [e1, e2]
    have hd := ddT_succ d x (n2 + n4) (by omega) (by omega)
    rw [show n2 + n4 - 1 = n2 + (n4 - 1) by omega] at hd
    by_cases he : x.getD (n2 + n4) d = x.getD (n2 + (n4 - 1)) d
    · rw [if_pos he] at hd
      rw [if_pos he]
      exact cpt_in d x n2 L R hn2 h2 hs hK c k n3 (n4 + 1) l (by omega) (by omega) (by omega) ⟨i1, by omega, by omega, by omega, i5, by rw [i6, ← hd]; rfl, fun j hj => i7 j (by omega)⟩
    · rw [if_neg he] at hd
      rw [if_neg he]
      refine cpt_in d x n2 L R hn2 h2 hs hK c k (n3 + 1) (n4 + 1) _ (by omega) (by omega) (by omega) ⟨by simp [i1], by omega, by omega, by omega, by omega, ?_, fun j hj => ?_⟩
      · rw [show n2 + (n4 + 1) = n2 + n4 + 1 by omega, hd, ← i6, take_succ_gD _ n3 d (by simp; omega), List.take_set_of_le (Nat.le_refl _)]
        have : n3 < l.length := by omega
        simp [List.getD_eq_getElem?_getD, this]
      · have : n3 ≠ j := by omega
        rw [← i7 j (by omega)]
        simp [List.getD_eq_getElem?_getD, List.getElem?_set_ne this]
theorem ddT_of_ne (d : α) (x : List α) : ∀ n, n ≤ x.length → (∀ j, 0 < j → j < n → x.getD j d ≠ x.getD (j - 1) d) → dd (x.take n) = x.take n
  | 0, _, _ => by simp [dd]
  | n + 1, hn, h => by
    have ih := ddT_of_ne d x n (by omega) fun j h1 h2 => h j h1 (by omega)
    by_cases h0 : n = 0
    · subst h0
      rw [take_succ_gD x 0 d (by omega)]
      simp [dd, ddS]
    · rw [ddT_succ d x n (by omega) (by omega), if_neg (h n (by omega) (by omega)), ih, ← take_succ_gD x n d (by omega)]
/-- the outer loop: ahead of the first pair of equal neighbours -/
theorem cpt_out {β : Type} (d : α) (x : List α) (L : Nat → Nat → Option β) (I : Nat → Option β) (F : List α → Option β)
    (hs : ∀ k n, 0 < n → n < x.length → L (k + 1) n = if x.getD n d = x.getD (n - 1) d then I n else L k (n + 1))
    (hI : ∀ n, 0 < n → n < x.length → CptI d x x n (n + 1) → I n = F (dd x))
    (he : ∀ k, L (k + 1) x.length = F x) : ∀ c k n, n + c = x.length → 0 < n → c < k → (∀ j, 0 < j → j < n → x.getD j d ≠ x.getD (j - 1) d) → L k n = F (dd x)
  | 0, k, n, hc, h0, hk, hi => by
    obtain ⟨k, rfl⟩ : ∃ q, k = q + 1 := ⟨k - 1, by omega⟩
    obtain rfl : n = x.length := by omega
    rw [he]
    have := ddT_of_ne d x x.length (by omega) hi
    rw [List.take_of_length_le (by omega)] at this
    rw [this]
  | c + 1, k, n, hc, h0, hk, hi => by
    obtain ⟨k, rfl⟩ : ∃ q, k = q + 1 := ⟨k - 1, by omega⟩
    rw [hs k n h0 (by omega)]
    by_cases he1 : x.getD n d = x.getD (n - 1) d
    · rw [if_pos he1]
      have hd := ddT_of_ne d x n (by omega) hi
      have hs := ddT_succ d x n (by omega) (by omega)
      rw [if_pos he1, hd] at hs
      exact hI n h0 (by omega) ⟨rfl, by omega, by omega, by omega, h0, hs.symm, fun j _ => rfl⟩
    · rw [if_neg he1]
      refine cpt_out d x L I F hs hI he c k (n + 1) (by omega) (by omega) (by omega) fun j h1 h2 => ?_
      by_cases e : j = n
      · subst e; exact he1
      · exact hi j h1 (by omega)
/-- what is left at the end: the first n3 places -/
theorem cpt_left (d : α) (x l : List α) (n3 : Nat) (h : CptI d x l n3 x.length) (m : Nat) (z : α) : (l.take n3 ++ List.replicate m z).take n3 = dd x := by
  obtain ⟨i1, i2, i3, i4, i5, i6, i7⟩ := h
  rw [List.take_append_of_le_length (by simp; omega), List.take_take, Nat.min_self, i6, List.take_of_length_le (Nat.le_refl _)]
end
end Go.Abs
