/- FamilyMinimal: the plain law. -/
import Derived.Test.YtncjecbhohcfoaaDoorPl08
import Derived.Test.YtncjecbhohcfoaaDoorAw08
namespace Go.Abs
/-! ### the reference: sorted by insertion -/
theorem f68_L1_eq (x : List (BitVec 16)) (n2 : Nat) (K : Nat × List (BitVec 16) → Option (List (BitVec 16))) (R : Option (List (BitVec 16))) (l : List (BitVec 16)) (hl : l.length ≤ 65536) (hn : n2 < x.length)
    (hK : ∀ n, n ≤ l.length → (∀ j, j < n → key (l.getD j 0#16) < key (x.getD n2 0#16)) → (n < l.length → ¬ key (l.getD n 0#16) < key (x.getD n2 0#16)) → K (n, l) = R) : ∀ c k n, n + c = l.length → c < k → (∀ j, j < n → key (l.getD j 0#16) < key (x.getD n2 0#16)) → f68_L1 x n2 K k (n, l) = R
  | 0, k, n, hc, hk, hi => by
    obtain ⟨k, rfl⟩ : ∃ q, k = q + 1 := ⟨k - 1, by omega⟩
    have h : decide (((n : Nat) : Int) < ((l.length : Nat) : Int)) = false := by simp; omega
    rw [f68_L1.eq_2, h]
    simp only [Bool.false_and, Bool.false_eq_true, if_false, beq_iff_eq]
    rw [show (false == true) = false from rfl, optc_f, chk_pos (fun h => by cases h), chk_pos (fun h => by cases h), chk_pos (fun h => by cases h)]
    exact hK n (by omega) hi (fun h => by omega)
  | c + 1, k, n, hc, hk, hi => by
    obtain ⟨k, rfl⟩ : ∃ q, k = q + 1 := ⟨k - 1, by omega⟩
    have h : decide (((n : Nat) : Int) < ((l.length : Nat) : Int)) = true := by simp; omega
    rw [f68_L1.eq_2, h]
    rw [show (true == true) = true from rfl, optc_t, f40_eq, some_bind, chk_pos (fun _ => by omega), chk_pos (fun _ => by omega), chk_pos (fun _ => by omega), Bool.true_and]
    by_cases hlt : ltS (l.getD n 0#16) (x.getD n2 0#16) = true
    · rw [if_pos hlt, chk_pos (by omega)]
      refine f68_L1_eq x n2 K R l hl hn hK c k (n + 1) (by omega) (by omega) fun j hj => ?_
      by_cases e : j = n
      · subst e; exact ltS_key.1 hlt
      · exact hi j (by omega)
    · rw [if_neg hlt]
      exact hK n (by omega) hi fun _ h => hlt (ltS_key.2 h)
/-- shifted up by one from n7 on -/
theorem f68_L2_eq (n7 : Nat) (K : List (BitVec 16) → Option (List (BitVec 16))) (R : Option (List (BitVec 16))) (p : List (BitVec 16)) (hp : p.length ≤ 65536) (h7 : n7 ≤ p.length)
    (hK : ∀ l, l.length = p.length + 1 → (∀ j, j < n7 → l.getD j 0#16 = p.getD j 0#16) → (∀ j, n7 < j → j ≤ p.length → l.getD j 0#16 = p.getD (j - 1) 0#16) → K l = R) :
    ∀ c k l, n7 + c ≤ p.length → c < k → l.length = p.length + 1 → (∀ j, j < n7 + c → l.getD j 0#16 = p.getD j 0#16) → (c < p.length - n7 → l.getD (n7 + c) 0#16 = p.getD (n7 + c) 0#16) → (∀ j, n7 + c < j → j ≤ p.length → l.getD j 0#16 = p.getD (j - 1) 0#16) → f68_L2 n7 K k (((n7 + c : Nat) : Int), l) = R
  | 0, k, l, hc, hk, hl, h1, h2, h3 => by
    obtain ⟨k, rfl⟩ : ∃ q, k = q + 1 := ⟨k - 1, by omega⟩
    rw [f68_L2.eq_2, ifd_neg (by omega)]
    exact hK l hl (fun j hj => h1 j (by omega)) (fun j hj => h3 j (by omega))
  | c + 1, k, l, hc, hk, hl, h1, h2, h3 => by
    obtain ⟨k, rfl⟩ : ∃ q, k = q + 1 := ⟨k - 1, by omega⟩
    have e1 : (((n7 + (c + 1) : Nat) : Int) - 1).toNat = n7 + c := by omega
    have e2 : ((n7 + (c + 1) : Nat) : Int).toNat = n7 + c + 1 := by omega
    have e3 : ((n7 + (c + 1) : Nat) : Int) - 1 = ((n7 + c : Nat) : Int) := by omega
    rw [f68_L2.eq_2, ifd_pos (by omega), chk_pos (by omega), chk_pos (by omega), chk_pos (by omega), chk_pos (by omega), chk_pos (by omega), chk_pos (by omega), e1, e2, e3]
    refine f68_L2_eq n7 K R p hp h7 hK c k _ (by omega) (by omega) (by simp [hl]) (fun j hj => ?_) (fun hlt => ?_) (fun j hj hjp => ?_)
    · rw [← h1 j (by omega)]
      have : n7 + c + 1 ≠ j := by omega
      simp [List.getD_eq_getElem?_getD, List.getElem?_set_ne this]
    · rw [← h1 (n7 + c) (by omega)]
      have : n7 + c + 1 ≠ n7 + c := by omega
      simp [List.getD_eq_getElem?_getD, List.getElem?_set_ne this]
    · by_cases e : j = n7 + c + 1
      · subst e
        rw [h1 (n7 + c) (by omega)]
        have : n7 + c + 1 < l.length := by omega
        simp [List.getD_eq_getElem?_getD, this]
      · rw [← h3 j (by omega) hjp]
        have : n7 + c + 1 ≠ j := fun h => e h.symm
        simp [List.getD_eq_getElem?_getD, List.getElem?_set_ne this]
/-- strictly ascending, with the members of l -/
def SInv (l out : List (BitVec 16)) : Prop := out.Pairwise (fun x y => key x < key y) ∧ (∀ a, a ∈ out ↔ a ∈ l) ∧ out.length ≤ l.length
theorem getD_mem {α : Type} {l : List α} {d : α} {n : Nat} (h : n < l.length) : l.getD n d ∈ l := by
  have : l.getD n d = l[n] := by simp [List.getD_eq_getElem?_getD, h]
  rw [this]; exact List.getElem_mem _
theorem strict_get {l : List (BitVec 16)} (h : l.Pairwise fun x y => key x < key y) {i j : Nat} (hij : i < j) (hj : j < l.length) : key (l.getD i 0#16) < key (l.getD j 0#16) := by
  have := List.pairwise_iff_getElem.1 h i j (by omega) hj hij
  have hi : i < l.length := by omega
  simpa [List.getD_eq_getElem?_getD, hi, hj] using this
theorem f68_L0_eq (x : List (BitVec 16)) (K : List (BitVec 16) → Option (List (BitVec 16))) (R : Option (List (BitVec 16))) (hx : x.length ≤ 65535) (hK : ∀ l, SInv x l → K l = R) :
    ∀ c k n l, n + c = x.length → c < k → SInv (x.take n) l → f68_L0 x K k (n, l) = R
  | 0, k, n, l, hc, hk, hi => by
    obtain ⟨k, rfl⟩ : ∃ q, k = q + 1 := ⟨k - 1, by omega⟩
    rw [f68_L0.eq_2, ifd_neg (by omega)]
    rw [List.take_of_length_le (by omega)] at hi
    exact hK l hi
  | c + 1, k, n, l, hc, hk, hi => by
    obtain ⟨k, rfl⟩ : ∃ q, k = q + 1 := ⟨k - 1, by omega⟩
    have hll : l.length ≤ n := by have := hi.2.2; simp at this; omega
    rw [f68_L0.eq_2, ifd_pos (by omega), jn_eq, jn_eq]
    refine f68_L1_eq x n _ _ l (by omega) (by omega) (fun m hm h1 h2 => ?_) l.length FUEL 0 (by omega) (fuel_lt (by omega)) (fun j hj => by omega)
    dsimp only
    have hmem : x.getD n 0#16 ∈ l → m < l.length ∧ l.getD m 0#16 = x.getD n 0#16 := by
      intro hmm
      obtain ⟨i, hi', e⟩ := List.getElem_of_mem hmm
      have e' : l.getD i 0#16 = x.getD n 0#16 := by rw [← e]; simp [List.getD_eq_getElem?_getD, hi']
      have him : m ≤ i := by
        rcases Nat.lt_or_ge i m with h | h
        · have := h1 i h; rw [e'] at this; omega
        · exact h
      refine ⟨by omega, ?_⟩
      by_cases e2 : m = i
      · rw [e2]; exact e'
      · have := strict_get hi.1 (show m < i by omega) hi'
        have h3 := h2 (by omega)
        rw [e'] at this
        exact absurd this h3
    rw [chk_pos (fun h => by simp at h; omega), chk_pos (fun h => by simp at h; omega), chk_pos (fun h => by omega)]
    by_cases hc2 : m < l.length ∧ l.getD m 0#16 = x.getD n 0#16
    · have hc21 := hc2.1
      rw [if_pos (by rw [hc2.2, beq_self_eq_true, Bool.and_true]; exact decide_eq_true (by omega))]
      rw [chk_pos (by omega)]
      refine f68_L0_eq x K R hx hK c k (n + 1) l (by omega) (by omega) ⟨hi.1, fun a => ?_, ?_⟩
      · rw [hi.2.1, take_succ_getD x n 0#16 (by omega), List.mem_append, List.mem_singleton]
        constructor
        · exact .inl
        · rintro (h | rfl)
          · exact h
          · rw [← hi.2.1, ← hc2.2]; exact getD_mem hc2.1
      · simp; omega
    · rw [if_neg (by simp; intro h; exact fun e => hc2 ⟨by omega, e⟩), chk_pos (by omega), jn_eq]
      have hnm : x.getD n 0#16 ∉ l := fun h => hc2 (hmem h)
      rw [chk_pos (by simp; omega)]
      have e0 : ((((l ++ [BitVec.ofInt 16 0]).length : Nat) : Int) - 1) = ((m + (l.length - m) : Nat) : Int) := by simp; omega
      rw [e0]
      refine f68_L2_eq m _ _ l (by omega) hm (fun r hr g1 g2 => ?_) (l.length - m) FUEL _ (by omega) (fuel_lt (by omega)) (by simp) (fun j hj => ?_) (fun h => by omega) (fun j hj hjp => by omega)
      · rw [chk_pos (by omega), chk_pos (by omega), chk_pos (by omega), chk_pos (by omega)]
        -- the result
        have hres : r.set m (x.getD n 0#16) = l.take m ++ x.getD n 0#16 :: l.drop m := by
          apply List.ext_getElem
          · simp; omega
          intro j hj1 hj2
          simp at hj1
          rw [List.getElem_set]
          split
          · rename_i e; subst e
            rw [List.getElem_append_right (by simp; omega)]
            simp [Nat.min_eq_left hm]
          · rename_i e
            by_cases hjm : j < m
            · rw [List.getElem_append_left (by simp; omega)]
              have := g1 j hjm
              have h3 : j < l.length := by omega
              simp [List.getD_eq_getElem?_getD, hj1, h3] at this
              simp [this]
            · have := g2 j (by omega) (by omega)
              rw [List.getElem_append_right (by simp; omega)]
              have h3 : j - 1 < l.length := by omega
              simp [List.getD_eq_getElem?_getD, hj1, h3] at this
              rw [this]
              have h4 : j - min m l.length = (j - m - 1) + 1 := by omega
              simp only [List.length_take, h4, List.getElem_cons_succ, List.getElem_drop]
              congr 1; omega
        rw [hres]
        refine f68_L0_eq x K R hx hK c k (n + 1) _ (by omega) (by omega) ⟨?_, fun a => ?_, ?_⟩
        · rw [List.pairwise_append]
          have hp := hi.1
          rw [← List.take_append_drop m l, List.pairwise_append] at hp
          have hbefore : ∀ a, a ∈ l.take m → key a < key (x.getD n 0#16) := by
            intro a ha
            obtain ⟨j, hj, rfl⟩ := List.getElem_of_mem ha
            simp at hj
            have := h1 j (by omega)
            have h3 : j < l.length := by omega
            simpa [List.getD_eq_getElem?_getD, h3] using this
          have hafter : ∀ a, a ∈ l.drop m → key (x.getD n 0#16) < key a := by
            intro a ha
            have hal := List.mem_of_mem_drop ha
            obtain ⟨j, hj, rfl⟩ := List.getElem_of_mem ha
            have hj' : j < l.length - m := by simpa using hj
            rw [List.getElem_drop] at hal ⊢
            have hge : key (l.getD m 0#16) ≤ key (l.getD (m + j) 0#16) := by
              by_cases e : j = 0
              · subst e; exact Nat.le_refl _
              · exact Nat.le_of_lt (strict_get hi.1 (by omega) (by omega))
            have hm2 := h2 (by omega)
            have h3 : m + j < l.length := by omega
            have e3 : l.getD (m + j) 0#16 = l[m + j] := by simp [List.getD_eq_getElem?_getD, h3]
            rw [e3] at hge
            rcases Nat.lt_or_ge (key (x.getD n 0#16)) (key l[m + j]) with h4 | h4
            · exact h4
            · have : key (x.getD n 0#16) = key l[m + j] := by omega
              rw [key_inj' this] at hnm
              exact absurd (List.getElem_mem h3) hnm
          refine ⟨hp.1, List.pairwise_cons.2 ⟨hafter, hp.2.1⟩, fun a ha b hb => ?_⟩
          rcases List.mem_cons.1 hb with rfl | hb
          · exact hbefore a ha
          · exact hp.2.2 a ha b hb
        · have hm' : a ∈ l ↔ a ∈ l.take m ∨ a ∈ l.drop m := by rw [← List.mem_append, List.take_append_drop]
          rw [take_succ_getD x n 0#16 (by omega)]
          simp only [List.mem_append, List.mem_cons, List.not_mem_nil, or_false]
          rw [← hi.2.1, hm']
          constructor
          · rintro (h | h | h) <;> simp [h]
          · rintro ((h | h) | h) <;> simp [h]
        · simp; omega
      · have : j < l.length := by omega
        simp [List.getD_eq_getElem?_getD, List.getElem?_append_left this]
theorem f68_eq (x : List (BitVec 16)) (hx : x.length ≤ 65535) : f68 x = some (srt x) := by
  unfold f68
  rw [jn_eq]
  refine f68_L0_eq x _ _ hx (fun l hl => ?_) x.length FUEL 0 [] (by omega) (fuel_lt (by omega)) ⟨.nil, fun a => by simp, by simp⟩
  rw [strict_uniq (k := key) (fun _ _ => key_inj') l (srt x) (fun a => (hl.2.1 a).trans (mem_srt a x).symm) hl.1 (srt_sorted x)]
/-! ### Least and Greatest of the reference -/
def domP (T : BitVec 16 → BitVec 16 → Bool) (s : List (BitVec 16)) (i : Nat) (b : Bool) (m : Nat) : Bool := b && !((List.range m).any fun j => i != j && T (s.getD j 0#16) (s.getD i 0#16))
theorem any_idx (T : BitVec 16 → BitVec 16 → Bool) (s : List (BitVec 16)) (hs : s.Pairwise fun x y => key x < key y) (i : Nat) (hi : i < s.length) :
    ((List.range s.length).any fun j => i != j && T (s.getD j 0#16) (s.getD i 0#16)) = s.any fun b => b != s.getD i 0#16 && T b (s.getD i 0#16) := by
  rw [Bool.eq_iff_iff, List.any_eq_true, List.any_eq_true]
  constructor
  · rintro ⟨j, hj, h⟩
    simp only [Bool.and_eq_true, bne_iff_ne] at h
    have hj := List.mem_range.1 hj
    refine ⟨s.getD j 0#16, getD_mem hj, ?_⟩
    simp only [Bool.and_eq_true, bne_iff_ne]
    refine ⟨fun e => ?_, h.2⟩
    rcases Nat.lt_or_gt_of_ne h.1 with h1 | h1
    · have := strict_get hs h1 hj; rw [e] at this; omega
    · have := strict_get hs h1 hi; rw [e] at this; omega
  · rintro ⟨b, hb, h⟩
    obtain ⟨j, hj, rfl⟩ := List.getElem_of_mem hb
    simp only [Bool.and_eq_true, bne_iff_ne] at h
    have e : s.getD j 0#16 = s[j] := by simp [List.getD_eq_getElem?_getD, hj]
    refine ⟨j, List.mem_range.2 hj, ?_⟩
    rw [e]
    simp only [Bool.and_eq_true, bne_iff_ne]
    exact ⟨fun e2 => h.1 (by subst e2; exact e.symm), h.2⟩
theorem f45_L1_eq (r2 : List (BitVec 16)) (n3 : Nat) (K : Bool → Option (List (BitVec 16))) (hx : r2.length ≤ 65536) (hn : n3 < r2.length) : ∀ c k n b, n + c = r2.length → c < k → b = domP sub r2 n3 true n → f45_L1 r2 n3 K k (b, n) = K (domP sub r2 n3 true r2.length)
  | 0, k, n, b, hc, hk, hb => by
    obtain ⟨k, rfl⟩ : ∃ q, k = q + 1 := ⟨k - 1, by omega⟩
    rw [f45_L1.eq_2, ifd_neg (by omega), hb, show n = r2.length by omega]
  | c + 1, k, n, b, hc, hk, hb => by
    obtain ⟨k, rfl⟩ : ∃ q, k = q + 1 := ⟨k - 1, by omega⟩
    have hcast : ((n3 : Int) != (n : Int)) = (n3 != n) := by rw [Bool.eq_iff_iff]; simp; omega
    have hstep : domP sub r2 n3 true (n + 1) = (domP sub r2 n3 true n && !(n3 != n && sub (r2.getD n 0#16) (r2.getD n3 0#16))) := by
      simp [domP, List.range_succ]
    rw [f45_L1.eq_2, ifd_pos (by omega), jn_eq, hcast]
    cases hne : (n3 != n) with
    | false =>
      rw [hne] at hstep
      rw [show (false == true) = false from rfl, optc_f, chk_pos (fun h => by cases h), chk_pos (fun h => by cases h), chk_pos (fun h => by cases h), chk_pos (fun h => by cases h), Bool.false_and, if_neg (by simp)]
      dsimp only
      rw [chk_pos (by omega)]
      exact f45_L1_eq r2 n3 K hx hn c k (n + 1) b (by omega) (by omega) (by rw [hstep, hb]; simp)
    | true =>
      rw [hne] at hstep
      rw [show (true == true) = true from rfl, optc_t, f41_eq, some_bind, chk_pos (fun _ => by omega), chk_pos (fun _ => by omega), chk_pos (fun _ => by omega), chk_pos (fun _ => by omega), Bool.true_and]
      cases hs : sub (r2.getD n 0#16) (r2.getD n3 0#16) with
      | true =>
        rw [hs] at hstep
        rw [if_pos rfl]
        dsimp only
        rw [chk_pos (by omega)]
        exact f45_L1_eq r2 n3 K hx hn c k (n + 1) false (by omega) (by omega) (by rw [hstep]; simp)
      | false =>
        rw [hs] at hstep
        rw [if_neg (by simp)]
        dsimp only
        rw [chk_pos (by omega)]
        exact f45_L1_eq r2 n3 K hx hn c k (n + 1) b (by omega) (by omega) (by rw [hstep, hb]; simp)
theorem f47_L1_eq (r2 : List (BitVec 16)) (n3 : Nat) (K : Bool → Option (List (BitVec 16))) (hx : r2.length ≤ 65536) (hn : n3 < r2.length) : ∀ c k n b, n + c = r2.length → c < k → b = domP (fun y a => sub a y) r2 n3 true n → f47_L1 r2 n3 K k (b, n) = K (domP (fun y a => sub a y) r2 n3 true r2.length)
  | 0, k, n, b, hc, hk, hb => by
    obtain ⟨k, rfl⟩ : ∃ q, k = q + 1 := ⟨k - 1, by omega⟩
    rw [f47_L1.eq_2, ifd_neg (by omega), hb, show n = r2.length by omega]
  | c + 1, k, n, b, hc, hk, hb => by
    obtain ⟨k, rfl⟩ : ∃ q, k = q + 1 := ⟨k - 1, by omega⟩
    have hcast : ((n3 : Int) != (n : Int)) = (n3 != n) := by rw [Bool.eq_iff_iff]; simp; omega
    have hstep : domP (fun y a => sub a y) r2 n3 true (n + 1) = (domP (fun y a => sub a y) r2 n3 true n && !(n3 != n && sub (r2.getD n3 0#16) (r2.getD n 0#16))) := by
      simp [domP, List.range_succ]
    rw [f47_L1.eq_2, ifd_pos (by omega), jn_eq, hcast]
    cases hne : (n3 != n) with
    | false =>
      rw [hne] at hstep
      rw [show (false == true) = false from rfl, optc_f, chk_pos (fun h => by cases h), chk_pos (fun h => by cases h), chk_pos (fun h => by cases h), chk_pos (fun h => by cases h), Bool.false_and, if_neg (by simp)]
      dsimp only
      rw [chk_pos (by omega)]
      exact f47_L1_eq r2 n3 K hx hn c k (n + 1) b (by omega) (by omega) (by rw [hstep, hb]; simp)
    | true =>
      rw [hne] at hstep
      rw [show (true == true) = true from rfl, optc_t, f41_eq, some_bind, chk_pos (fun _ => by omega), chk_pos (fun _ => by omega), chk_pos (fun _ => by omega), chk_pos (fun _ => by omega), Bool.true_and]
      cases hs : sub (r2.getD n3 0#16) (r2.getD n 0#16) with
      | true =>
        rw [hs] at hstep
        rw [if_pos rfl]
        dsimp only
        rw [chk_pos (by omega)]
        exact f47_L1_eq r2 n3 K hx hn c k (n + 1) false (by omega) (by omega) (by rw [hstep]; simp)
      | false =>
        rw [hs] at hstep
        rw [if_neg (by simp)]
        dsimp only
        rw [chk_pos (by omega)]
        exact f47_L1_eq r2 n3 K hx hn c k (n + 1) b (by omega) (by omega) (by rw [hstep, hb]; simp)
theorem domP_undom (T : BitVec 16 → BitVec 16 → Bool) (s : List (BitVec 16)) (hs : s.Pairwise fun x y => key x < key y) (i : Nat) (hi : i < s.length) : domP T s i true s.length = undom T s (s.getD i 0#16) := by
  unfold domP undom
  rw [any_idx T s hs i hi, Bool.true_and]
theorem foldl_filter {α : Type} (p : α → Bool) : ∀ (s out : List α), s.foldl (fun out a => if p a = true then out ++ [a] else out) out = out ++ s.filter p
  | [], out => by simp
  | a :: s, out => by
    rw [List.foldl_cons, foldl_filter p s]
    cases h : p a <;> simp [h]
theorem f45_eq (x : List (BitVec 16)) (hx : x.length ≤ 65535) : f45 x = some ((srt x).filter (undom sub (srt x))) := by
  unfold f45
  have hl := srt_len x
  rw [f68_eq x hx, some_bind, jn_eq]
  refine (fold_up (f45_L0 (srt x) _) (srt x) 0#16 (fun n l => l.length ≤ n) (fun out a => if undom sub (srt x) a = true then out ++ [a] else out) (fun l => some l) ?_ ?_ ?_ (srt x).length FUEL 0 [] (by omega) (fuel_lt (by omega)) (Nat.le_refl _)).trans ?_
  · intro k n s hn hi
    rw [f45_L0.eq_2, ifd_pos (by omega), jn_eq, jn_eq, f45_L1_eq (srt x) n _ (by omega) hn (srt x).length FUEL 0 true (by omega) (fuel_lt (by omega)) (by simp [domP]), domP_undom sub _ (srt_sorted x) n hn]
    cases undom sub (srt x) ((srt x).getD n 0#16) with
    | true => simp only [if_true]; rw [chk_pos (by omega), chk_pos (by omega), chk_pos (by omega), chk_pos (by omega)]
    | false => simp only [Bool.false_eq_true, if_false]; rw [chk_pos (by omega)]
  · intro n s hn hi
    split
    · simp; omega
    · omega
  · intro k s hi
    rw [f45_L0.eq_2, ifd_neg (by omega)]
  · rw [List.drop_zero, foldl_filter]; rfl
theorem f47_eq (x : List (BitVec 16)) (hx : x.length ≤ 65535) : f47 x = some ((srt x).filter (undom (fun y a => sub a y) (srt x))) := by
  unfold f47
  have hl := srt_len x
  rw [f68_eq x hx, some_bind, jn_eq]
  refine (fold_up (f47_L0 (srt x) _) (srt x) 0#16 (fun n l => l.length ≤ n) (fun out a => if undom (fun y a => sub a y) (srt x) a = true then out ++ [a] else out) (fun l => some l) ?_ ?_ ?_ (srt x).length FUEL 0 [] (by omega) (fuel_lt (by omega)) (Nat.le_refl _)).trans ?_
  · intro k n s hn hi
    rw [f47_L0.eq_2, ifd_pos (by omega), jn_eq, jn_eq, f47_L1_eq (srt x) n _ (by omega) hn (srt x).length FUEL 0 true (by omega) (fuel_lt (by omega)) (by simp [domP]), domP_undom (fun y a => sub a y) _ (srt_sorted x) n hn]
    cases undom (fun y a => sub a y) (srt x) ((srt x).getD n 0#16) with
    | true => simp only [if_true]; rw [chk_pos (by omega), chk_pos (by omega), chk_pos (by omega), chk_pos (by omega)]
    | false => simp only [Bool.false_eq_true, if_false]; rw [chk_pos (by omega)]
  · intro n s hn hi
    split
    · simp; omega
    · omega
  · intro k s hi
    rw [f47_L0.eq_2, ifd_neg (by omega)]
  · rw [List.drop_zero, foldl_filter]; rfl
/-- all in range -/
def rngS (x : List (BitVec 16)) : Bool := x.all fun a => decide (a.toNat < 4096)
def limP (x r : List (BitVec 16)) : List (BitVec 16) × Int := if rngS x = true then (if r.length > 400 then ([], 3) else (r, 0)) else ([], 7)
theorem any_not_all {α : Type} (p : α → Bool) (x : List α) : (x.any fun a => !p a) = !(x.all p) := by simp [List.any_eq_not_all_not]
theorem f44_eq (x r : List (BitVec 16)) (hx : x.length ≤ 65535) : f44 x r = some (limP x r) := by
  unfold f44
  rw [jn_eq, any_up (f44_L0 x _) x 0#16 (fun a => !decide (a.toNat < 4096)) (some ([], 7)) (if r.length > 400 then some ([], 3) else some (r, 0)) (fun k n hn => by
    rw [f44_L0.eq_2, ifd_pos (by omega), f39_eq, some_bind, chk_pos (by omega)]
    rw [chk_pos (by omega)]) (fun k => by
    rw [f44_L0.eq_2, ifd_neg (by omega)]
    by_cases h : r.length > 400
    · rw [ifd_pos (by omega), if_pos h]
    · rw [ifd_neg (by omega), if_neg h]) FUEL (fuel_lt (by omega)), any_not_all]
  unfold limP rngS
  cases x.all fun a => decide (a.toNat < 4096) with
  | true => simp; split <;> rfl
  | false => simp
theorem f49_eq (r : List (BitVec 16)) : f49 r = some (if r.length > 400 then ([], 3) else (r, 0)) := by
  unfold f49
  by_cases h : r.length > 400
  · rw [ifd_pos (by omega), if_pos h]
  · rw [ifd_neg (by omega), if_neg h]
theorem f53a_eq (x : List (BitVec 16)) (hx : x.length ≤ 65535) : f53a x = some (!(rngS x)) := by
  unfold f53a f73a
  rw [jn_eq]
  have hp : ∀ a : BitVec 16, f66 a = some (!decide (a.toNat < 4096)) := fun a => by unfold f66; rw [outside_eq]
  rcases find_up (f73a_L0 x fun _ => some (-1)) x 0#16 (fun a => !decide (a.toNat < 4096)) (fun m => some ((m : Nat) : Int)) (some (-1)) (fun k n hn => by
    rw [f73a_L0.eq_2, ifd_pos (by omega), hp, some_bind, chk_pos (by omega), chk_pos (by omega)]) (fun k => by
    rw [f73a_L0.eq_2, ifd_neg (by omega)]) x.length FUEL 0 (by omega) (fuel_lt (by omega)) with ⟨m, _, _, _, h1, h2⟩ | ⟨h1, h2⟩
  · rw [h1, some_bind]
    rw [List.drop_zero, any_not_all] at h2
    unfold rngS
    rw [h2]; simp
  · rw [h1, some_bind]
    rw [List.drop_zero, any_not_all] at h2
    unfold rngS
    rw [h2]; simp
theorem f14_eq (x : List (BitVec 16)) (hx : x.length ≤ 65535) : f14 x = some (limP x (leastP x)) := by
  unfold f14 f42 limP
  rw [f53a_eq x hx, some_bind]
  cases rngS x with
  | true => simp only [Bool.not_true, Bool.false_eq_true, if_false, if_true]; rw [f43_eq x (by omega), some_bind, f49_eq]; rfl
  | false => rfl
theorem f16_eq (x : List (BitVec 16)) (hx : x.length ≤ 65535) : f16 x = some (limP x (greatestP x)) := by
  unfold f16 f42a limP
  rw [f53a_eq x hx, some_bind]
  cases rngS x with
  | true => simp only [Bool.not_true, Bool.false_eq_true, if_false, if_true]; rw [f46_eq x (by omega), some_bind, f49_eq]; rfl
  | false => rfl
theorem f15_eq (x : List (BitVec 16)) (hx : x.length ≤ 65535) : f15 x = some (limP x (leastP x)) := by
  unfold f15
  rw [f45_eq x hx, some_bind, f44_eq x _ hx, leastP_eq]; rfl
theorem f17_eq (x : List (BitVec 16)) (hx : x.length ≤ 65535) : f17 x = some (limP x (greatestP x)) := by
  unfold f17
  rw [f47_eq x hx, some_bind, f44_eq x _ hx, greatestP_eq]; rfl
theorem f18_self (x : List (BitVec 16)) (hx : x.length ≤ 65536) : f18 x x = some true := by
  unfold f18
  rw [if_neg (by simp), jn_eq, any_up (f18_L0 x x _) x 0#16 (fun _ => false) (some true) (some true) (fun k n hn => by
    rw [f18_L0.eq_2, ifd_pos (by omega), chk_pos (by omega), chk_pos (by omega), if_neg (by simp), chk_pos (by omega)]
    simp) (fun k => by
    rw [f18_L0.eq_2, ifd_neg (by omega)]) FUEL (fuel_lt (by omega))]
  split <;> rfl
theorem limP_len (x r : List (BitVec 16)) : (limP x r).1.length ≤ 400 := by
  unfold limP
  split
  · split
    · simp
    · simp; omega
  · simp
theorem f4_true (x : List (BitVec 16)) : f4 x = some true := by
  unfold f4
  rw [f10_true]
  simp only [Option.bind_some, Bool.not_true, Bool.false_or]
  by_cases h : x.length > 100
  · rw [ifd_pos (by omega)]
  · rw [ifd_neg (by omega), f12_eq x (by omega), some_bind, f14_eq x (by omega), some_bind, f15_eq x (by omega), some_bind, some_bind, f16_eq x (by omega), some_bind, f17_eq x (by omega), some_bind]
    have l1 := limP_len x (leastP x)
    have l2 := limP_len x (greatestP x)
    simp only [beq_self_eq_true, Bool.and_self]
    rw [optc_t, f18_self _ (by omega), some_bind]
    simp only [beq_self_eq_true, Bool.and_self]
    rw [optc_t, f18_self _ (by omega), some_bind]
    rfl
end Go.Abs
