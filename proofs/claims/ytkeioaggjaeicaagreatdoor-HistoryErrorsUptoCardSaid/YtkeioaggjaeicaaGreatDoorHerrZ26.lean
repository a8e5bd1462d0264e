/- Part 26 of the proof: Open3. -/
import Derived.Test.YtkeioaggjaeicaaGreatDoorHerrZ25
import Derived.Deep.SlicePairs
import Derived.Lib.LaidTab
namespace Go.Abs
open Go Go.RowKit Go.ChangeShapes Go.WideShapes Go.ChangeAt Go.Deep
theorem rel_tab {P : Program} {W : World} {name : String} {k : IntKind} {zs : List Int} {g : Nat} (h : Lib.TabIs P W name k zs) (hg : P.globalNamed name = some g) : Rel (allSt W) W noGh (.tab k zs) (.pointer (some ⟨g, 0, none⟩)) := by
  unfold Lib.TabIs World.var? at h
  rw [hg] at h
  simp only [Option.bind_some] at h
  split at h
  · rename_i cs t fr hb
    cases h
    refine .tab _ _ _ _ _ _ ?_ hb
    unfold allSt
    exact (Array.getElem?_eq_some_iff.1 hb).1
  · cases h
section
variable {H : Type} {enc : TypeId × Value → H} {P : Program} {W : World} {t e : TypeId} {base : Nat} {v : Value} {d : DataW H} {ps : List MemPlace}
/-- a field: a string (true) or an int (false) -/
def fldV (b : Bool) (x : Value) : Prop := if b then ∃ s : ByteArray, x = .string s ∧ s.size ≤ 9223372036854775807 else ∃ n : Int, x = .int .i64 n ∧ -9223372036854775808 ≤ n ∧ n ≤ 9223372036854775807
theorem fld_of {spare : Nat → Bool} {held : Bool} {fuel : Nat} {tf : TypeId} {x : Value} {y : DataW H × List MemPlace} {b : Bool} (ht : P.underlying tf = some (if b then .string else .int .i64)) (h : DataW.trod enc P W base spare held fuel tf [x] = some y) : fldV b x := by
  cases b
  · obtain ⟨n, e, _, hw⟩ := DataW.trod_int (by simpa using ht) h
    simp only [List.cons.injEq, and_true] at e
    refine ⟨n, e, ?_⟩
    have h3 : IntKind.i64.min ≤ n ∧ n ≤ 9223372036854775807 := by
      unfold Lit.wf at hw
      simpa using hw
    simp [IntKind.min, IntKind.signed, IntKind.bits] at h3
    omega
  · obtain ⟨s, e, _, hw⟩ := DataW.trod_string (by simpa using ht) h
    simp only [List.cons.injEq, and_true] at e
    refine ⟨s, e, ?_⟩
    have : maxLen = 9223372036854775807 := rfl
    omega
/-- the cells of a struct of one-cell fields -/
theorem cells_of {spare : Nat → Bool} {held : Bool} {fuel : Nat} {fs : Array Field} {bs : List Bool} {cs : List Value} {y : DataW H × List MemPlace} (he : P.underlying e = some (.struct fs)) (hn : fs.size = bs.length) (ce : P.cellsOf e = bs.length)
    (hf : ∀ (i : Nat) (f : Field), fs[i]? = some f → f.offset = i ∧ P.cellsOf f.type = 1 ∧ P.underlying f.type = some (if bs.getD i true then .string else .int .i64))
    (h : DataW.trod enc P W base spare held fuel e cs = some y) : cs.length = bs.length ∧ ∀ i, i < bs.length → fldV (bs.getD i true) (cs.getD i undef) := by
  obtain ⟨xs, n, _, _, hl, hxl, hx⟩ := DataW.trod_struct he h
  rw [ce] at hl
  refine ⟨hl, fun i hi => ?_⟩
  obtain ⟨f, hff⟩ : ∃ f, fs[i]? = some f := ⟨fs[i], by simp [hn, hi]⟩
  obtain ⟨h1, h2, h3⟩ := hf i f hff
  have := hx i f hff
  rw [h1, h2] at this
  have e1 : (cs.drop i).take 1 = [cs.getD i undef] := by
    rw [List.drop_eq_getElem_cons (by omega), List.take_succ_cons, List.take_zero]
    simp [List.getD_eq_getElem?_getD, hl, hi]
  rw [e1, List.getElem?_eq_getElem (by omega)] at this
  exact fld_of h3 this
theorem fldV_one {b : Bool} {x : Value} (h : fldV b x) : x.oneCell' = true := by
  cases b
  · obtain ⟨n, rfl, _⟩ := h; rfl
  · obtain ⟨s, rfl, _⟩ := h; rfl
end
/-- Pair: two strings and int -/
def okP (x : List UInt8 × List UInt8 × Int) : Prop := x.1.length ≤ 9223372036854775807 ∧ x.2.1.length ≤ 9223372036854775807 ∧ (-9223372036854775808 ≤ x.2.2 ∧ x.2.2 ≤ 9223372036854775807)
end Go.Abs
