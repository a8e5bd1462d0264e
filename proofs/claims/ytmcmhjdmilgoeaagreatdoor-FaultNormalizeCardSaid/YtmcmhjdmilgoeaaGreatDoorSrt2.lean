/- Sorting by a key: one sorted list. -/
namespace Go.Abs
section
variable {α : Type}
def insK (k : α → Nat) (a : α) : List α → List α
  | [] => [a]
  | b :: l => if k a ≤ k b then a :: b :: l else b :: insK k a l
def isortK (k : α → Nat) : List α → List α
  | [] => []
  | a :: l => insK k a (isortK k l)
variable {k : α → Nat}
theorem insK_perm (a : α) : ∀ l, (insK k a l).Perm (a :: l)
  | [] => .refl _
  | b :: l => by
    unfold insK
    split
    · exact .refl _
    · exact ((insK_perm a l).cons b).trans (.swap ..)
theorem isortK_perm : ∀ l, (isortK k l).Perm l
  | [] => .refl _
  | a :: l => (insK_perm a _).trans ((isortK_perm l).cons a)
theorem insK_sorted (a : α) : ∀ l, l.Pairwise (fun x y => k x ≤ k y) → (insK k a l).Pairwise fun x y => k x ≤ k y
  | [], _ => by simp [insK]
  | b :: l, h => by
    unfold insK
    rw [List.pairwise_cons] at h
    split
    · rename_i hab
      refine List.pairwise_cons.2 ⟨fun x hx => ?_, List.pairwise_cons.2 h⟩
      rcases List.mem_cons.1 hx with rfl | hx
      · exact hab
      · exact Nat.le_trans hab (h.1 x hx)
    · rename_i hab
      refine List.pairwise_cons.2 ⟨fun x hx => ?_, insK_sorted a l h.2⟩
      rcases List.mem_cons.1 ((insK_perm a l).mem_iff.1 hx) with rfl | hx
      · omega
      · exact h.1 x hx
theorem isortK_sorted : ∀ l, (isortK k l).Pairwise fun x y => k x ≤ k y
  | [] => .nil
  | a :: l => insK_sorted a _ (isortK_sorted l)
theorem sorted_uniq (inj : ∀ x y, k x = k y → x = y) : ∀ l1 l2 : List α, l1.Perm l2 → l1.Pairwise (fun x y => k x ≤ k y) → l2.Pairwise (fun x y => k x ≤ k y) → l1 = l2
  | [], l2, h, _, _ => (List.nil_perm.1 h).symm
  | a :: l1, [], h, _, _ => by have := h.length_eq; simp at this
  | a :: l1, b :: l2, h, h1, h2 => by
    rw [List.pairwise_cons] at h1 h2
    have e : a = b := by
      refine inj a b (Nat.le_antisymm ?_ ?_)
      · rcases List.mem_cons.1 (h.mem_iff.2 (List.mem_cons_self (a := b) (l := l2))) with rfl | hb
        · exact Nat.le_refl _
        · exact h1.1 b hb
      · rcases List.mem_cons.1 (h.mem_iff.1 (List.mem_cons_self (a := a) (l := l1))) with rfl | ha
        · exact Nat.le_refl _
        · exact h2.1 a ha
    subst e
    rw [sorted_uniq inj l1 l2 (List.Perm.cons_inv h) h1.2 h2.2]
theorem isortK_eq (inj : ∀ x y, k x = k y → x = y) {lt : α → α → Bool} (hlt : ∀ x y, lt x y = true ↔ k x < k y) (l : List α) : l.mergeSort (fun x y => !lt y x) = isortK k l := by
  have hle : ∀ x y, (!lt y x) = true ↔ k x ≤ k y := by
    intro x y
    have := hlt y x
    cases h : lt y x <;> simp [h] at this ⊢ <;> omega
  refine sorted_uniq inj _ _ ((List.mergeSort_perm l _).trans (isortK_perm l).symm) ?_ (isortK_sorted l)
  have := List.pairwise_mergeSort (le := fun x y => !lt y x) (fun a b c h1 h2 => (hle _ _).2 (Nat.le_trans ((hle _ _).1 h1) ((hle _ _).1 h2))) (fun a b => by
    rcases Nat.le_total (k a) (k b) with h | h
    · rw [(hle a b).2 h]; rfl
    · rw [(hle b a).2 h, Bool.or_true]) l
  exact this.imp fun h => (hle _ _).1 h
end
end Go.Abs
