/- Part 26 of the proof: Open3, Open4. -/
import Derived.Test.YtjgboohpholnbaaDoorTpcotZ25
import Derived.Deep.SlicePairs
import Derived.Lib.LaidTab
namespace Go.Abs
open Go Go.RowKit Go.ChangeShapes Go.WideShapes Go.ChangeAt Go.Deep
section
variable {H : Type} {enc : TypeId × Value → H} {P : Program} {W : World} {t e : TypeId} {base : Nat} {v : Value} {d : DataW H} {ps : List MemPlace}
end
end Go.Abs
namespace Go.Abs
open Go Go.RowKit Go.ChangeShapes Go.WideShapes Go.ChangeAt Go.Deep
section
variable {P : Program} {W : World} {t e : TypeId} {base : Nat} {v : Value}
theorem open_arr3 {ts : List TypeId} (ht : P.underlying t = some (.array 3 e)) (hc : P.cellsOf t = 3) (hct : P.cellTypes P.depth t = some ts) (hts : ∀ u, u ∈ ts → u = e) (he : P.underlying e = some (.int .u8)) (hval : Value.okWide P W .any base t v) :
    ∃ a b c : Int, (0 ≤ a ∧ a ≤ 255) ∧ (0 ≤ b ∧ b ≤ 255) ∧ (0 ≤ c ∧ c ≤ 255) ∧ Rel (allSt W) W noGh (.agg [.int .u8 a, .int .u8 b, .int .u8 c]) v := by
  unfold Value.okWide at hval
  rw [ht] at hval
  obtain ⟨cs, rfl, hsz, ts', hts', _, hcell⟩ := hval
  rw [hct] at hts'
  cases hts'
  rw [hc] at hsz
  have one : ∀ i, i < 3 → ∃ n : Int, cs.getD i undef = .int .u8 n ∧ 0 ≤ n ∧ n ≤ 255 := by
    intro i hi
    have hv : cs[i]? = some (cs.getD i undef) := by simp [hsz, hi]
    obtain ⟨u, hu, hk⟩ := hcell i _ hv
    have hue := hts u (List.mem_of_getElem? hu)
    subst hue
    have hw : Value.okWide P W .any base u (cs.getD i undef) := by unfold Value.okWide; rw [he]; exact hk
    obtain ⟨n, h1, h2, h3⟩ := open_u8 he hw
    exact ⟨n, h1, h2, h3⟩
  obtain ⟨a, ha, ha1⟩ := one 0 (by omega)
  obtain ⟨b, hb, hb1⟩ := one 1 (by omega)
  obtain ⟨c, hc', hc1⟩ := one 2 (by omega)
  refine ⟨a, b, c, ha1, hb1, hc1, .agg _ _ _ (by simp [hsz]) fun i hi => ?_⟩
  have hi' : i < 3 := hi
  match i, hi' with
  | 0, _ => show Rel _ _ _ (.int .u8 a) (cs.getD 0 undef); rw [ha]; exact .int _ _ _
  | 1, _ => show Rel _ _ _ (.int .u8 b) (cs.getD 1 undef); rw [hb]; exact .int _ _ _
  | 2, _ => show Rel _ _ _ (.int .u8 c) (cs.getD 2 undef); rw [hc']; exact .int _ _ _
end
end Go.Abs
