/- Part 17 of the proof: InsW. -/
import Derived.Test.YtfkhgbcggabkjaaGreatDoorMoncomZ16
import Derived.Lib.JoinLaws
import Derived.Lib.SliceRun
import Derived.Laws.Externs
import Derived.Laws.IdiomCopy
import Derived.Laws.NewBlocks
namespace Go.Abs
open Go Go.RowKit Go.Lib
/-! ### slices.Delete -/
section
variable {α : Type} (St : Nat → Prop) (w : World) (k : Nat) (ev : α → List V) (d : α)
def RelL (l : List α) (xs : List Value) : Prop := xs.length = l.length * k ∧ ∀ p q, p < l.length → q < k → Rel St w noGh (encF ev d l p q) (xs.getD (p * k + q) undef)
variable {St w k ev d}
theorem RelL.take {l : List α} {xs : List Value} (h : RelL St w k ev d l xs) (i : Nat) (hi : i ≤ l.length) : RelL St w k ev d (l.take i) (xs.take (i * k)) := by
 have hik : i * k ≤ l.length * k := Nat.mul_le_mul_right k hi
 refine ⟨by simp [h.1], fun p q hp hq => ?_⟩
 have hp' : p < i := by simp at hp; omega
 have hpk : p * k + q < i * k := by
  have : (p + 1) * k ≤ i * k := Nat.mul_le_mul_right k hp'
  rw [Nat.add_mul, Nat.one_mul] at this; omega
 have := h.2 p q (by omega) hq
 unfold encF at this ⊢
 rw [List.getD_eq_getElem?_getD (l := l.take i), List.getElem?_take, if_pos hp', ← List.getD_eq_getElem?_getD, List.getD_eq_getElem?_getD (l := xs.take (i * k)), List.getElem?_take, if_pos hpk, ← List.getD_eq_getElem?_getD]
 exact this
theorem RelL.drop {l : List α} {xs : List Value} (h : RelL St w k ev d l xs) (i : Nat) (hi : i ≤ l.length) : RelL St w k ev d (l.drop i) (xs.drop (i * k)) := by
 refine ⟨by simp [h.1, Nat.sub_mul], fun p q hp hq => ?_⟩
 have hp' : i + p < l.length := by simp at hp; omega
 have := h.2 (i + p) q hp' hq
 unfold encF at this ⊢
 rw [List.getD_eq_getElem?_getD (l := l.drop i), List.getElem?_drop, ← List.getD_eq_getElem?_getD, List.getD_eq_getElem?_getD (l := xs.drop (i * k)), List.getElem?_drop, ← List.getD_eq_getElem?_getD, ← Nat.add_assoc, ← Nat.add_mul]
 exact this
theorem RelL.append {l m : List α} {xs ys : List Value} (h : RelL St w k ev d l xs) (h2 : RelL St w k ev d m ys) : RelL St w k ev d (l ++ m) (xs ++ ys) := by
 refine ⟨by simp [h.1, h2.1, Nat.add_mul], fun p q hp hq => ?_⟩
 by_cases c : p < l.length
 ·have hpk : p * k + q < l.length * k := by
   have : (p + 1) * k ≤ l.length * k := Nat.mul_le_mul_right k c
   rw [Nat.add_mul, Nat.one_mul] at this; omega
  have := h.2 p q c hq
  unfold encF at this ⊢
  rw [List.getD_eq_getElem?_getD (l := l ++ m), List.getElem?_append_left c, ← List.getD_eq_getElem?_getD, List.getD_eq_getElem?_getD (l := xs ++ ys), List.getElem?_append_left (by rw [h.1]; exact hpk), ← List.getD_eq_getElem?_getD]
  exact this
 ·have hsub : p * k + q - l.length * k = (p - l.length) * k + q := by
   have : l.length * k ≤ p * k := Nat.mul_le_mul_right k (by omega)
   rw [Nat.sub_mul]; omega
  have hpk : l.length * k ≤ p * k + q := by
   have : l.length * k ≤ p * k := Nat.mul_le_mul_right k (by omega)
   omega
  have := h2.2 (p - l.length) q (by simp at hp; omega) hq
  unfold encF at this ⊢
  rw [List.getD_eq_getElem?_getD (l := l ++ m), List.getElem?_append_right (by omega), ← List.getD_eq_getElem?_getD, List.getD_eq_getElem?_getD (l := xs ++ ys), List.getElem?_append_right (by rw [h.1]; exact hpk), h.1, hsub, ← List.getD_eq_getElem?_getD]
  exact this
end
end Go.Abs
