/- Part 25 of the proof: Open2, Open3, Open4, AbsM1. -/
import Derived.Test.YtmcmhjdmilgoeaaGreatDoorThreshZ24
import Derived.Deep.SlicePairs
import Derived.Lib.LaidTab
namespace Go.Abs
open Go Go.RowKit Go.ChangeShapes Go.WideShapes Go.ChangeAt Go.Deep
section
variable {H : Type} {enc : TypeId × Value → H} {P : Program} {W : World} {t e : TypeId} {base : Nat} {v : Value} {d : DataW H} {ps : List MemPlace}
/-- such a struct -/
theorem open_pair {f0 f1 : Field} {ta tb : TypeId} (ht : P.underlying t = some (.struct #[f0, f1])) (hc : P.cellsOf t = 2) (hct : P.cellTypes P.depth t = some [ta, tb])
    (h0 : P.underlying ta = some (.int .u16)) (h1 : P.underlying tb = some (.int .u16)) (hval : Value.okWide P W .any base t v) :
    ∃ x : BitVec 16 × BitVec 16, Rel (allSt W) W noGh (.agg [.b16 x.1, .b16 x.2]) v := by
  unfold Value.okWide at hval
  rw [ht] at hval
  obtain ⟨cs, rfl, hsz, ts', hts', _, hcell⟩ := hval
  rw [hct] at hts'
  cases hts'
  rw [hc] at hsz
  have hv0 : cs[0]? = some (cs.getD 0 undef) := by simp [hsz]
  have hv1 : cs[1]? = some (cs.getD 1 undef) := by simp [hsz]
  obtain ⟨u0, hu0, hk0⟩ := hcell 0 _ hv0
  obtain ⟨u1, hu1, hk1⟩ := hcell 1 _ hv1
  simp at hu0 hu1
  subst hu0 hu1
  have hw0 : Value.okWide P W .any base ta (cs.getD 0 undef) := by unfold Value.okWide; rw [h0]; exact hk0
  have hw1 : Value.okWide P W .any base tb (cs.getD 1 undef) := by unfold Value.okWide; rw [h1]; exact hk1
  obtain ⟨x, hx⟩ := open_word h0 hw0
  obtain ⟨y, hy⟩ := open_word h1 hw1
  refine ⟨(x, y), .agg _ _ _ (by simp [hsz]) fun i hi => ?_⟩
  have hi' : i < 2 := hi
  match i, hi' with
  | 0, _ =>
    show Rel _ _ _ (.b16 x) (cs.getD 0 undef)
    rw [hx]; exact .b16 _ _
  | 1, _ =>
    show Rel _ _ _ (.b16 y) (cs.getD 1 undef)
    rw [hy]; exact .b16 _ _
end
end Go.Abs
namespace Go.Abs
open Go Go.RowKit Go.ChangeShapes Go.WideShapes Go.ChangeAt Go.Deep
section
variable {H : Type} {enc : TypeId × Value → H} {P : Program} {W : World} {t e : TypeId} {base : Nat} {v : Value} {d : DataW H} {ps : List MemPlace}
end
end Go.Abs
namespace Go.Abs
open Go Go.RowKit Go.ChangeShapes Go.WideShapes Go.ChangeAt Go.Deep
section
variable {P : Program} {W : World} {t e : TypeId} {base : Nat} {v : Value}
end
end Go.Abs
namespace Go.Abs
open Go Go.MapKept

section
variable {α β : Type}
variable {P : Program}
theorem OpSpec.to {op : Op} {ty : TypeId} {bk : List Nat} {h0 h1 h1' : Heap} {args : List V} {r r' : V} (h : OpSpec P op ty bk h0 args r h1) (e1 : r = r') (e2 : h1 = h1') : OpSpec P op ty bk h0 args r' h1' := by
  subst e1; subst e2; exact h
end
section
variable {P : Program} {Q : Exit → S → Prop} {α β : Type}
end
end Go.Abs
