/- Part 30 of the proof: Open5. -/
import Derived.Test.YtkeioaggjaeicaaGreatDoorHoneZ29
import Derived.Stop.LaidErr
namespace Go.Abs
open Go Go.RowKit Go.ChangeShapes Go.WideShapes Go.ChangeAt Go.Deep
section
variable {H : Type} {enc : TypeId × Value → H} {P : Program} {W : World} {t e : TypeId} {base : Nat} {v : Value} {d : DataW H} {ps : List MemPlace}
/-- a slice of strings -/
theorem open_strs (ht : P.underlying t = some (.slice e)) (he : P.underlying e = some .string) (ce : P.cellsOf e = 1)
    (hval : Value.okWide P W .any base t v) (h : DataW.Trod enc P W 0 (fun _ => true) true t v d ps) :
    ∃ l : List (List UInt8), Rel (allSt W) W noGh (.arr 1 l.length (encF (fun x : List UInt8 => [.str x]) [] l)) v ∧ (∀ a, a ∈ l → a.length ≤ 9223372036854775807) ∧ l.length ≤ 9223372036854775807 := by
  obtain ⟨fuel, hf'⟩ := h
  obtain ⟨a0, len0, cap0, rfl⟩ := okWide_slice ht hval
  simp only [Value.cells] at hf'
  rcases open_slice ht hf' with ⟨h1, h2⟩ | ⟨a, len, cap, m, n, D, Pl, h1, hb, hlc, hm, hz, hx, hcell⟩
  · simp only [List.cons.injEq, Value.slice.injEq, and_true] at h1
    obtain ⟨rfl, rfl, rfl⟩ := h1
    exact ⟨[], .arr0 _ _ _, by simp, by simp⟩
  · simp only [List.cons.injEq, Value.slice.injEq, and_true] at h1
    obtain ⟨rfl, rfl, rfl⟩ := h1
    simp only [if_true] at hz
    subst hz
    have hsp : a.spot = none := by
      unfold Value.okWide at hval
      rw [ht] at hval
      simp only [Cell.okWide, ht, Cell.ok] at hval
      exact hval.2.2.2.1
    obtain ⟨ab, ao, aas⟩ := a
    simp only at hsp
    subst hsp
    have each : ∀ i, i < len0 → ∃ q : ByteArray, q.size ≤ 9223372036854775807 ∧ W.cell? ⟨ab, ao + i * 1 + 0, none⟩ = some (.string q) := by
      intro i hi
      obtain ⟨cs', g1, g2⟩ := hcell i (by omega)
      rw [ce] at g1
      obtain ⟨_, hlen, hc⟩ := World.cells?_some g1
      obtain ⟨x, rfl⟩ : ∃ x, cs' = [x] := by
        match cs', hlen with
        | [x], _ => exact ⟨x, rfl⟩
      obtain ⟨s, rfl, hs⟩ : fldV true x := fld_of (b := true) (by simpa using he) g2
      refine ⟨s, hs, ?_⟩
      have := hc 0 (by omega)
      rw [add_plain, add_plain] at this
      simpa using this
    obtain ⟨q, hq⟩ := choose_lt each
    have hlen : ((List.range len0).map fun i => (q i).data.toList).length = len0 := by simp
    have hget : ∀ i, i < len0 → ((List.range len0).map fun i => (q i).data.toList).getD i [] = (q i).data.toList := fun i hi => by
      simp [List.getD_eq_getElem?_getD, hi]
    have hmm : maxLen = 9223372036854775807 := rfl
    refine ⟨(List.range len0).map fun i => (q i).data.toList, ?_, ?_, by omega⟩
    · rw [hlen]
      refine .arr _ _ _ _ ab ao m (fun i j => .string (q i)) hlc (by omega) (fun hn hs => ?_) (fun i j hi hj => ?_) (fun i j hi hj => rfl) (fun i j hi hj => ?_)
      · exact block_of_cell (hq 0 hn).2
      · obtain rfl : j = 0 := by omega
        exact (hq i hi).2
      · obtain rfl : j = 0 := by omega
        show Rel _ _ _ (([V.str (((List.range len0).map fun i => (q i).data.toList).getD i [])] : List V).getD 0 .any) _
        rw [hget i hi]
        exact .str _ _ _ rfl
    · intro a ha
      obtain ⟨i, hi, rfl⟩ := List.mem_map.1 ha
      have := (hq i (List.mem_range.1 hi)).1
      simpa using this
end
end Go.Abs
