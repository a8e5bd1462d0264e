/- Chapter 19: models. -/
import Derived.Test.YtmcmhjdmilgoeaaGreatDoorNrm19
namespace Go.Abs
def mF (a : Flt) : Nat := sz a.1 + sz (ftyS a)
theorem sz_le (x : BitVec 16) : sz x ≤ 16 := bsum_le x.toNat 16 0
theorem mF_le (a : Flt) : mF a ≤ 32 := by
  have := sz_le a.1
  have := sz_le (ftyS a)
  unfold mF; omega
theorem cov_mF {a b : Flt} (ha : disj a) (hb : disj b) (h : cov b a = true) (hne : a ≠ b) : mF a < mF b := by
  have h0 := h
  unfold cov at h
  rw [Bool.and_eq_true] at h
  have h1 := sub_sz h.1
  have h2 := sub_sz h.2
  unfold mF
  by_cases e : sz a.1 = sz b.1 ∧ sz (ftyS a) = sz (ftyS b)
  · refine absurd (cov_antisymm hb ha h0 ?_).symm hne
    unfold cov
    rw [h1.2 e.1, h2.2 e.2, sub_refl, sub_refl]; rfl
  · omega
theorem norm_above (l : List Flt) (hd : ∀ a, a ∈ l → disj a) : ∀ n a, 32 - mF a ≤ n → a ∈ l → ∃ b, b ∈ normP l ∧ cov b a = true := by
  intro n
  induction n with
  | zero =>
    intro a hn ha
    refine ⟨a, (mem_normP l a).2 ⟨ha, fun b hb hne => ?_⟩, cov_refl a⟩
    cases h : cov b a with
    | false => rfl
    | true =>
      have := cov_mF (hd a ha) (hd b hb) h hne
      have := mF_le b
      omega
  | succ n ih =>
    intro a hn ha
    by_cases h : ∃ b, b ∈ l ∧ a ≠ b ∧ cov b a = true
    · obtain ⟨b, h1, h2, h3⟩ := h
      have := cov_mF (hd a ha) (hd b h1) h3 h2
      have := mF_le b
      obtain ⟨c, h4, h5⟩ := ih b (by omega) h1
      exact ⟨c, h4, cov_trans h5 h3⟩
    · refine ⟨a, (mem_normP l a).2 ⟨ha, fun b hb hne => ?_⟩, cov_refl a⟩
      cases h' : cov b a with
      | false => rfl
      | true => exact absurd ⟨b, hb, hne, h'⟩ h
theorem tol_iff {l : List Flt} {a : Flt} : tol l a = true ↔ ∃ b, b ∈ l ∧ cov b a = true := List.any_eq_true
theorem tol_norm (l : List Flt) (hd : ∀ a, a ∈ l → disj a) (a : Flt) : tol (normP l) a = tol l a := by
  rw [Bool.eq_iff_iff, tol_iff, tol_iff]
  constructor
  · rintro ⟨b, h1, h2⟩; exact ⟨b, ((mem_normP l b).1 h1).1, h2⟩
  · rintro ⟨b, h1, h2⟩
    obtain ⟨c, h3, h4⟩ := norm_above l hd _ b (Nat.le_refl _) h1
    exact ⟨c, h3, cov_trans h4 h2⟩
theorem norm_ne {l : List Flt} (hd : ∀ a, a ∈ l → disj a) (h : l ≠ []) : normP l ≠ [] := by
  cases l with
  | nil => exact absurd rfl h
  | cons a l =>
    obtain ⟨b, hb, _⟩ := norm_above (a :: l) hd _ a (Nat.le_refl _) (List.mem_cons_self ..)
    intro e; rw [e] at hb; cases hb
theorem errF_zero {a : Flt} : errF a = 0 ↔ (ftyS a).toNat < 4096 ∧ disj a := by
  unfold errF disj
  by_cases h : (ftyS a).toNat < 4096
  · rw [if_pos h]
    by_cases h2 : a.1 &&& a.2 = 0#16
    · rw [if_pos h2]; simp [h, h2]
    · rw [if_neg h2]; simp [h2]
  · rw [if_neg h]; simp [h]
theorem errs_none {x : List Flt} : errs x = none ↔ ∀ a, a ∈ x → errF a = 0 := by
  unfold errs
  rw [Option.map_eq_none_iff, List.find?_eq_none]
  constructor
  · intro h a ha; simpa using h a ha
  · intro h a ha; simpa using h a ha
theorem errs_some_ne {x : List Flt} {e : Int} (h : errs x = some e) : e ≠ 0 := by
  unfold errs at h
  rw [Option.map_eq_some_iff] at h
  obtain ⟨a, h1, rfl⟩ := h
  have := List.find?_some h1
  simpa using this
/-- no errors, in order, none covered by another one -/
def okM (x : List Flt) : Prop := (∀ a, a ∈ x → errF a = 0) ∧ x.Pairwise (fun a b => keyF a < keyF b) ∧ x.Pairwise fun a b => cov a b = false ∧ cov b a = false
theorem scanF_ok (x : List Flt) (h : okM x) : ∀ c n, n + c = x.length → scanF x c n = none
  | 0, n, hn => rfl
  | c + 1, n, hn => by
    obtain ⟨h1, h2, h3⟩ := h
    have hlt : n < x.length := by omega
    have en : x.getD n default = x[n] := by simp [List.getD_eq_getElem?_getD, hlt]
    unfold scanF
    rw [if_neg (fun e => e (h1 _ (by rw [en]; exact List.getElem_mem hlt))), if_neg, if_neg, scanF_ok x ⟨h1, h2, h3⟩ c (n + 1) (by omega)]
    · rintro ⟨h0, hk⟩
      have hl2 : n - 1 < x.length := by omega
      have e2 : x.getD (n - 1) default = x[n - 1] := by simp [List.getD_eq_getElem?_getD, hl2]
      rw [en, e2] at hk
      exact hk (List.pairwise_iff_getElem.1 h2 (n - 1) n hl2 hlt (by omega))
    · intro e
      unfold anyC at e
      rw [List.any_eq_true] at e
      obtain ⟨y, hy, hc⟩ := e
      obtain ⟨j, hj, rfl⟩ := List.getElem_of_mem hy
      have hj' : j < n := by simp at hj; omega
      have hjl : j < x.length := by omega
      rw [List.getElem_take, en] at hc
      have := List.pairwise_iff_getElem.1 h3 j n hjl hlt hj'
      rw [this.1, this.2] at hc
      cases hc
theorem valid_ok (x : List Flt) (h : okM x) (h0 : x ≠ []) (hl : x.length ≤ 100) : validF x = 0 := by
  unfold validF
  rw [if_neg (fun e => h0 (List.eq_nil_of_length_eq_zero e)), if_neg (by omega), scanF_ok x h x.length 0 (by omega)]
  rfl
theorem normP_ok (l : List Flt) (h : ∀ a, a ∈ l → errF a = 0) : okM (normP l) := by
  refine ⟨fun a ha => h a ((mem_normP l a).1 ha).1, normP_strict l, ?_⟩
  rw [List.pairwise_iff_getElem]
  intro i j hi hj hij
  have hs := List.pairwise_iff_getElem.1 (normP_strict l) i j hi hj hij
  have hne : (normP l)[i] ≠ (normP l)[j] := fun e => by rw [e] at hs; omega
  have a1 := (mem_normP l _).1 (List.getElem_mem hi)
  have a2 := (mem_normP l _).1 (List.getElem_mem hj)
  exact ⟨a2.2 _ a1.1 hne.symm, a1.2 _ a2.1 hne⟩
end Go.Abs
