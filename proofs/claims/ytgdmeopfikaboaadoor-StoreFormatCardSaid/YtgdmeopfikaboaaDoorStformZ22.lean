/- Part 22 of the proof: Open3, F48Law7. -/
import Derived.Test.YtgdmeopfikaboaaDoorStformZ21
import Derived.Deep.SlicePairs
import Derived.Lib.LaidTab
namespace Go.Abs
open Go Go.RowKit Go.ChangeShapes Go.WideShapes Go.ChangeAt Go.Deep
theorem rel_tab {P : Program} {W : World} {name : String} {k : IntKind} {zs : List Int} {g : Nat} (h : Lib.TabIs P W name k zs) (hg : P.globalNamed name = some g) : Rel (allSt W) W noGh (.tab k zs) (.pointer (some ⟨g, 0, none⟩)) := by
  unfold Lib.TabIs World.var? at h
  rw [hg] at h
  simp only [Option.bind_some] at h
  split at h
  · rename_i cs t fr hb
    cases h
    refine .tab _ _ _ _ _ _ ?_ hb
    unfold allSt
    exact (Array.getElem?_eq_some_iff.1 hb).1
  · cases h
section
variable {H : Type} {enc : TypeId × Value → H} {P : Program} {W : World} {t e : TypeId} {base : Nat} {v : Value} {d : DataW H} {ps : List MemPlace}
/-- a field: a string (true) or an int (false) -/
def fldV (b : Bool) (x : Value) : Prop := if b then ∃ s : ByteArray, x = .string s ∧ s.size ≤ 9223372036854775807 else ∃ n : Int, x = .int .i64 n ∧ -9223372036854775808 ≤ n ∧ n ≤ 9223372036854775807
theorem fld_of {spare : Nat → Bool} {held : Bool} {fuel : Nat} {tf : TypeId} {x : Value} {y : DataW H × List MemPlace} {b : Bool} (ht : P.underlying tf = some (if b then .string else .int .i64)) (h : DataW.trod enc P W base spare held fuel tf [x] = some y) : fldV b x := by
  cases b
  · obtain ⟨n, e, _, hw⟩ := DataW.trod_int (by simpa using ht) h
    simp only [List.cons.injEq, and_true] at e
    refine ⟨n, e, ?_⟩
    have h3 : IntKind.i64.min ≤ n ∧ n ≤ 9223372036854775807 := by
      unfold Lit.wf at hw
      simpa using hw
    simp [IntKind.min, IntKind.max, IntKind.signed, IntKind.bits] at h3
    omega
  · obtain ⟨s, e, _, hw⟩ := DataW.trod_string (by simpa using ht) h
    simp only [List.cons.injEq, and_true] at e
    refine ⟨s, e, ?_⟩
    have : maxLen = 9223372036854775807 := rfl
    omega
/-- the cells of a struct of one-cell fields -/
theorem cells_of {spare : Nat → Bool} {held : Bool} {fuel : Nat} {fs : Array Field} {bs : List Bool} {cs : List Value} {y : DataW H × List MemPlace} (he : P.underlying e = some (.struct fs)) (hn : fs.size = bs.length) (ce : P.cellsOf e = bs.length)
    (hf : ∀ (i : Nat) (f : Field), fs[i]? = some f → f.offset = i ∧ P.cellsOf f.type = 1 ∧ P.underlying f.type = some (if bs.getD i true then .string else .int .i64))
    (h : DataW.trod enc P W base spare held fuel e cs = some y) : cs.length = bs.length ∧ ∀ i, i < bs.length → fldV (bs.getD i true) (cs.getD i undef) := by
  obtain ⟨xs, n, _, _, hl, hxl, hx⟩ := DataW.trod_struct he h
  rw [ce] at hl
  refine ⟨hl, fun i hi => ?_⟩
  obtain ⟨f, hff⟩ : ∃ f, fs[i]? = some f := ⟨fs[i], by simp [hn, hi]⟩
  obtain ⟨h1, h2, h3⟩ := hf i f hff
  have := hx i f hff
  rw [h1, h2] at this
  have e1 : (cs.drop i).take 1 = [cs.getD i undef] := by
    rw [List.drop_eq_getElem_cons (by omega), List.take_succ_cons, List.take_zero]
    simp [List.getD_eq_getElem?_getD, hl, hi]
  rw [e1, List.getElem?_eq_getElem (by omega)] at this
  exact fld_of h3 this
/-- such a struct as a value -/
theorem open_struct {α : Type} {encA : α → List V} {fs : Array Field} {bs : List Bool} (ok : α → Prop) (he : P.underlying t = some (.struct fs)) (hn : fs.size = bs.length) (ce : P.cellsOf t = bs.length)
    (hf : ∀ (i : Nat) (f : Field), fs[i]? = some f → f.offset = i ∧ P.cellsOf f.type = 1 ∧ P.underlying f.type = some (if bs.getD i true then .string else .int .i64))
    (hlen : ∀ a, (encA a).length = bs.length)
    (mk : ∀ cs : List Value, cs.length = bs.length → (∀ i, i < bs.length → fldV (bs.getD i true) (cs.getD i undef)) → ∃ a : α, ok a ∧ ∀ i, i < bs.length → Rel (allSt W) W noGh ((encA a).getD i .any) (cs.getD i undef))
    (hval : Value.okWide P W .any base t v) (h : DataW.Trod enc P W 0 (fun _ => true) true t v d ps) :
    ∃ a : α, Rel (allSt W) W noGh (.agg (encA a)) v ∧ ok a := by
  obtain ⟨fuel, hf'⟩ := h
  unfold Value.okWide at hval
  rw [he] at hval
  obtain ⟨cs, rfl, hsz, _⟩ := hval
  have h1 : (Value.agg cs).cells.toList = cs.toList := rfl
  rw [h1] at hf'
  obtain ⟨hl, hfv⟩ := cells_of he hn ce hf hf'
  obtain ⟨a, hok, ha⟩ := mk cs.toList hl hfv
  refine ⟨a, .agg _ _ _ (by rw [hlen a]; simpa using hl) fun i hi => ?_, hok⟩
  have := ha i (by rw [← hlen a]; exact hi)
  simpa [Array.getD_eq_getD_getElem?, List.getD_eq_getElem?_getD] using this
end
/-- Op: int and three strings -/
def okO (x : Int × List UInt8 × List UInt8 × List UInt8) : Prop := (-9223372036854775808 ≤ x.1 ∧ x.1 ≤ 9223372036854775807) ∧ x.2.1.length ≤ 9223372036854775807 ∧ x.2.2.1.length ≤ 9223372036854775807 ∧ x.2.2.2.length ≤ 9223372036854775807
theorem mkO {W : World} (cs : List Value) (_h : cs.length = [false, true, true, true].length) (hf : ∀ i, i < [false, true, true, true].length → fldV ([false, true, true, true].getD i true) (cs.getD i undef)) :
    ∃ a : Int × List UInt8 × List UInt8 × List UInt8, okO a ∧ ∀ i, i < [false, true, true, true].length → Rel (allSt W) W noGh (([.int .i64 a.1, .str a.2.1, .str a.2.2.1, .str a.2.2.2] : List V).getD i .any) (cs.getD i undef) := by
  obtain ⟨n, h0, b0⟩ := hf 0 (by decide)
  obtain ⟨s1, h1, b1⟩ := hf 1 (by decide)
  obtain ⟨s2, h2, b2⟩ := hf 2 (by decide)
  obtain ⟨s3, h3, b3⟩ := hf 3 (by decide)
  refine ⟨(n, s1.data.toList, s2.data.toList, s3.data.toList), ⟨b0, ?_, ?_, ?_⟩, fun i hi => ?_⟩
  · exact b1
  · exact b2
  · exact b3
  · match i, hi with
    | 0, _ => rw [h0]; exact .int _ _ _
    | 1, _ => rw [h1]; exact .str _ _ _ rfl
    | 2, _ => rw [h2]; exact .str _ _ _ rfl
    | 3, _ => rw [h3]; exact .str _ _ _ rfl
end Go.Abs
namespace Go.Abs
theorem f7_true (k : Int) (a b c : List UInt8) (h : okO (k, a, b, c)) : f7 k a b c = some true := by
  obtain ⟨_, ha, hb, hc⟩ := h
  simp only at ha hb hc
  unfold f7
  rw [f10_true, some_bind, chk_pos (fun _ => trivial), chk_pos (fun _ => trivial)]
  simp only [Bool.not_true, Bool.false_or]
  split
  · rfl
  rw [f13_eq k a b c ha hb hc, some_bind, f22_eq k a b c ha hb hc, some_bind]
  unfold f23 f24
  generalize (if okOp k a b c = true then (txt k a b c, (0 : Int)) else ([], 1)) = r
  simp [optc]
end Go.Abs
