/- Part 10 of the proof: AbsS. -/
import Derived.Test.YtjgboohpholnbaaDoorTpcotZ09
import Derived.MapKept
namespace Go.Abs
open Go Go.MapKept

section
variable {P : Program} {St : Nat → Prop} {w : World}
/-- The ghost of one block more. -/
theorem WSim.newObj {z : Start} {g : Gh} {h : Heap} (hs : WSim z St g h w) {d : Nat} {v' : Value} {blk : Blk} {ob : Obj} (hfr : Heap.fresh d (h.del d) = true) (hb : blockOf v' = some w.heap.size)
    (hok : BlkOk St (w.alloc ob) (g.set d v') v' blk) : WSim z St (g.set d v') ((d, blk) :: h.del d) (w.alloc ob) :=
  hs.change (ro := none) (fun k hk => by cases hk) rfl rfl rfl (by simp) (fun k hk _ => by first | exact heap_alloc_old w _ hk | exact heap_alloc_old w _ k hk) (.inl hfr) (fun k hk => by rw [hb] at hk; cases hk; exact .inr ⟨Nat.le_refl _, by simp⟩) hok

end

end Go.Abs
