/- Part 14 of the proof: AbsM2, AbsR4, AbsM3. -/
import Derived.Test.YtjgboohpholnbaaGreatDoorTpcomZ13
import Derived.DeepKeys3
namespace Go.Abs
open Go Go.MapKept
section
variable {P : Program} {kt : TypeId} {α : Type} [DecidableEq α] {ek : α → V}
end
section
variable {P : Program} {α β : Type} [DecidableEq α]
end
section
variable {P : Program} {α β : Type} [DecidableEq α]
def bP (ek : α → V) (dk : α) (ev : β → V) (dv : β) (l : List (α × β)) : Blk := bM ek dk ev dv (l.map (·.1)) (l.map (·.2))
def hM (l : List (α × β)) (x : α) : Bool := l.any fun p => decide (x = p.1)
end
section
variable {P : Program} {α β : Type} [DecidableEq α]
end
section
variable {P : Program} {α β : Type} [DecidableEq α]
end
section
variable {P : Program} {α β : Type} [DecidableEq α]
end
theorem BLe.P {α β : Type} {ek : α → V} {dk : α} {ev : β → V} {dv : β} {l l' : List (α × β)} (h : l = l') : BLe (bP ek dk ev dv l) (bP ek dk ev dv l') := by rw [h]; exact .refl _
end Go.Abs
namespace Go.Abs
open Go
abbrev V.i (n : Int) : V := .int .i64 n
abbrev lZ {α : Type} (l : List α) : Int := ((l.length : Nat) : Int)
theorem idA (p : Prop) : p → p := fun h => h
theorem bqA (b w : Bool) : true = true → b = w → (b == w) = true := fun _ h => beq_iff_eq.2 h
section
variable {α : Type} {p q s t u : Prop} [Decidable p] [Decidable q] [Decidable s] [Decidable t] [Decidable u] {x : Option α} {r : α}
theorem ck2 (h : chk p (chk q x) = some r) : p ∧ q ∧ x = some r := by
 obtain ⟨a, h⟩ := chk_some h
 exact ⟨a, chk_some h⟩
theorem ck3 (h : chk p (chk q (chk s x)) = some r) : p ∧ q ∧ s ∧ x = some r := by
 obtain ⟨a, h⟩ := chk_some h
 exact ⟨a, ck2 h⟩
theorem ck4 (h : chk p (chk q (chk s (chk t x))) = some r) : p ∧ q ∧ s ∧ t ∧ x = some r := by
 obtain ⟨a, h⟩ := chk_some h
 exact ⟨a, ck3 h⟩
theorem ck5 (h : chk p (chk q (chk s (chk t (chk u x)))) = some r) : p ∧ q ∧ s ∧ t ∧ u ∧ x = some r := by
 obtain ⟨a, h⟩ := chk_some h
 exact ⟨a, ck4 h⟩
end
end Go.Abs
namespace Go.Abs
open Go
end Go.Abs
