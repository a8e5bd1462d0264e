/- Lists of faults: sorted ones, the maximal ones. -/
import Derived.Test.YtmcmhjdmilgoeaaGreatDoorFam2
namespace Go.Abs
/-- a place in a strictly ascending list -/
theorem strict_insert {α : Type} {k : α → Nat} (inj : ∀ x y, k x = k y → x = y) (out : List α) (x d : α) (m : Nat) (hm : m ≤ out.length) (hs : out.Pairwise fun a b => k a < k b)
    (h1 : ∀ j, j < m → k (out.getD j d) < k x) (h2 : m < out.length → ¬ k (out.getD m d) < k x) (hx : x ∉ out) : (out.take m ++ x :: out.drop m).Pairwise fun a b => k a < k b := by
  rw [List.pairwise_append]
  have hp := hs
  rw [← List.take_append_drop m out, List.pairwise_append] at hp
  have hbefore : ∀ a, a ∈ out.take m → k a < k x := by
    intro a ha
    obtain ⟨j, hj, rfl⟩ := List.getElem_of_mem ha
    simp at hj
    have := h1 j (by omega)
    have h3 : j < out.length := by omega
    simpa [List.getD_eq_getElem?_getD, h3] using this
  have hafter : ∀ a, a ∈ out.drop m → k x < k a := by
    intro a ha
    have hal := List.mem_of_mem_drop ha
    obtain ⟨j, hj, rfl⟩ := List.getElem_of_mem ha
    have hj' : j < out.length - m := by simpa using hj
    rw [List.getElem_drop] at hal ⊢
    have h3 : m + j < out.length := by omega
    have hm' : m < out.length := by omega
    have e0 : out.getD m d = out[m] := by simp [List.getD_eq_getElem?_getD, hm']
    have hm2 := h2 hm'
    rw [e0] at hm2
    have hge : k out[m] ≤ k out[m + j] := by
      by_cases e : j = 0
      · subst e; exact Nat.le_refl _
      · exact Nat.le_of_lt (List.pairwise_iff_getElem.1 hs m (m + j) hm' h3 (by omega))
    rcases Nat.lt_or_ge (k x) (k out[m + j]) with h4 | h4
    · exact h4
    · have : k x = k out[m + j] := by omega
      rw [inj _ _ this] at hx
      exact absurd (List.getElem_mem h3) hx
  refine ⟨hp.1, List.pairwise_cons.2 ⟨hafter, hp.2.1⟩, fun a ha b hb => ?_⟩
  rcases List.mem_cons.1 hb with rfl | hb
  · exact hbefore a ha
  · exact hp.2.2 a ha b hb
theorem mem_insert_at {α : Type} (out : List α) (x a : α) (m : Nat) : a ∈ out.take m ++ x :: out.drop m ↔ a = x ∨ a ∈ out := by
  have hm' : a ∈ out ↔ a ∈ out.take m ∨ a ∈ out.drop m := by rw [← List.mem_append, List.take_append_drop]
  simp only [List.mem_append, List.mem_cons]
  rw [hm']
  constructor
  · rintro (h | h | h) <;> simp [h]
  · rintro (h | h | h) <;> simp [h]

abbrev Flt := BitVec 16 × BitVec 16
def ftyS (a : Flt) : BitVec 16 := a.1 ||| a.2
/-- b covers a -/
def cov (b a : Flt) : Bool := sub a.1 b.1 && sub (ftyS a) (ftyS b)
def keyF (a : Flt) : Nat := key a.1 * 2000000 + key a.2
theorem keyF_inj {a b : Flt} (h : keyF a = keyF b) : a = b := by
  have h1 := key_lt a.1
  have h2 := key_lt a.2
  have h3 := key_lt b.1
  have h4 := key_lt b.2
  unfold keyF at h
  have e1 : key a.1 = key b.1 := by omega
  have e2 : key a.2 = key b.2 := by omega
  exact Prod.ext (key_inj' e1) (key_inj' e2)
theorem cov_refl (a : Flt) : cov a a = true := by unfold cov; rw [sub_refl, sub_refl]; rfl
theorem cov_trans {a b c : Flt} (h1 : cov a b = true) (h2 : cov b c = true) : cov a c = true := by
  unfold cov at *
  rw [Bool.and_eq_true] at *
  exact ⟨sub_trans h2.1 h1.1, sub_trans h2.2 h1.2⟩
/-- no server both ways -/
def disj (a : Flt) : Prop := a.1 &&& a.2 = 0#16
theorem sub_antisymm {x y : BitVec 16} (h1 : sub x y = true) (h2 : sub y x = true) : x = y := by
  have a := sub_sz h1
  have b := sub_sz h2
  exact a.2 (by omega)
theorem disj_diff {a : Flt} (h : disj a) : a.2 = ftyS a &&& ~~~a.1 := by
  unfold disj at h
  apply BitVec.eq_of_getLsbD_eq
  intro i hi
  have h3 := congrArg (fun z => z.getLsbD i) h
  simp only [BitVec.getLsbD_and] at h3
  unfold ftyS
  rw [bit_diff _ _ i hi, BitVec.getLsbD_or]
  cases h4 : a.1.getLsbD i with
  | false => simp
  | true => rw [h4, Bool.true_and] at h3; rw [h3]; simp
theorem cov_antisymm {a b : Flt} (ha : disj a) (hb : disj b) (h1 : cov a b = true) (h2 : cov b a = true) : a = b := by
  unfold cov at *
  rw [Bool.and_eq_true] at *
  have e1 := sub_antisymm h1.1 h2.1
  have e2 := sub_antisymm h1.2 h2.2
  refine Prod.ext e1.symm ?_
  rw [disj_diff ha, disj_diff hb, e1, e2]
def srtF (l : List Flt) : List Flt := dd (isortK keyF l)
theorem srtF_sorted (l : List Flt) : (srtF l).Pairwise fun x y => keyF x < keyF y := dd_strict (fun _ _ => keyF_inj) _ _ rfl (isortK_sorted l)
theorem mem_srtF (a : Flt) (l : List Flt) : a ∈ srtF l ↔ a ∈ l := (dd_mem a _).trans (isortK_perm l).mem_iff
theorem srtF_len (l : List Flt) : (srtF l).length ≤ l.length := Nat.le_trans (dd_len _) (Nat.le_of_eq (isortK_perm l).length_eq)
/-- no other one covers it -/
def undF (l : List Flt) (a : Flt) : Bool := !(l.any fun b => a != b && cov b a)
theorem undF_iff {l : List Flt} {a : Flt} : undF l a = true ↔ ∀ b, b ∈ l → a ≠ b → cov b a = false := by
  simp [undF, List.any_eq_false]
def normP (l : List Flt) : List Flt := (srtF l).filter (undF (srtF l))
theorem mem_normP (l : List Flt) (a : Flt) : a ∈ normP l ↔ a ∈ l ∧ ∀ b, b ∈ l → a ≠ b → cov b a = false := by
  unfold normP
  rw [List.mem_filter, mem_srtF, undF_iff]
  constructor
  · rintro ⟨h1, h2⟩; exact ⟨h1, fun b hb => h2 b ((mem_srtF b l).2 hb)⟩
  · rintro ⟨h1, h2⟩; exact ⟨h1, fun b hb => h2 b ((mem_srtF b l).1 hb)⟩
theorem normP_strict (l : List Flt) : (normP l).Pairwise fun x y => keyF x < keyF y := List.Pairwise.filter _ (srtF_sorted l)
theorem normP_congr {l l' : List Flt} (h : ∀ a, a ∈ l ↔ a ∈ l') : normP l = normP l' := by
  refine strict_uniq (k := keyF) (fun _ _ => keyF_inj) _ _ (fun a => ?_) (normP_strict l) (normP_strict l')
  rw [mem_normP, mem_normP]
  simp only [h]
theorem normP_len (l : List Flt) : (normP l).length ≤ l.length := Nat.le_trans (List.length_filter_le _ _) (srtF_len l)
/-- what a list tolerates -/
def tol (l : List Flt) (a : Flt) : Bool := l.any fun b => cov b a
end Go.Abs
