/- Part 28 of the proof: Open5. -/
import Derived.Test.YtmcmhjdmilgoeaaGreatDoorThreshZ27
import Derived.Stop.LaidErr
namespace Go.Abs
open Go Go.RowKit Go.ChangeShapes Go.WideShapes Go.ChangeAt Go.Deep
section
variable {H : Type} {enc : TypeId × Value → H} {P : Program} {W : World} {t e : TypeId} {base : Nat} {v : Value} {d : DataW H} {ps : List MemPlace}
/-- an array of two ints -/
theorem open_arr2 {ts : List TypeId} (ht : P.underlying t = some (.array 2 e)) (hc : P.cellsOf t = 2) (hct : P.cellTypes P.depth t = some ts) (hts : ∀ u, u ∈ ts → u = e) (he : P.underlying e = some (.int .i64)) (hval : Value.okWide P W .any base t v) :
    ∃ a b : Int, (-9223372036854775808 ≤ a ∧ a ≤ 9223372036854775807) ∧ (-9223372036854775808 ≤ b ∧ b ≤ 9223372036854775807) ∧ Rel (allSt W) W noGh (.agg [.int .i64 a, .int .i64 b]) v := by
  unfold Value.okWide at hval
  rw [ht] at hval
  obtain ⟨cs, rfl, hsz, ts', hts', _, hcell⟩ := hval
  rw [hct] at hts'
  cases hts'
  rw [hc] at hsz
  have one : ∀ i, i < 2 → ∃ n : Int, cs.getD i undef = .int .i64 n ∧ -9223372036854775808 ≤ n ∧ n ≤ 9223372036854775807 := by
    intro i hi
    have hv : cs[i]? = some (cs.getD i undef) := by simp [hsz, hi]
    obtain ⟨u, hu, hk⟩ := hcell i _ hv
    have hue := hts u (List.mem_of_getElem? hu)
    subst hue
    have hw : Value.okWide P W .any base u (cs.getD i undef) := by unfold Value.okWide; rw [he]; exact hk
    obtain ⟨n, h1, h2, h3⟩ := open_i64 he hw
    exact ⟨n, h1, h2, h3⟩
  obtain ⟨a, ha, ha1⟩ := one 0 (by omega)
  obtain ⟨b, hb, hb1⟩ := one 1 (by omega)
  refine ⟨a, b, ha1, hb1, .agg _ _ _ (by simp [hsz]) fun i hi => ?_⟩
  have hi' : i < 2 := hi
  match i, hi' with
  | 0, _ => show Rel _ _ _ (.int .i64 a) (cs.getD 0 undef); rw [ha]; exact .int _ _ _
  | 1, _ => show Rel _ _ _ (.int .i64 b) (cs.getD 1 undef); rw [hb]; exact .int _ _ _
end
end Go.Abs
