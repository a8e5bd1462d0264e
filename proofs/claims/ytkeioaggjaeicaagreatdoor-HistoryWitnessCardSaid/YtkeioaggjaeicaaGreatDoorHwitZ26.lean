/- Part 26 of the proof: Open3. -/
import Derived.Test.YtkeioaggjaeicaaGreatDoorHwitZ25
import Derived.Deep.SlicePairs
import Derived.Lib.LaidTab
namespace Go.Abs
open Go Go.RowKit Go.ChangeShapes Go.WideShapes Go.ChangeAt Go.Deep
theorem rel_tab {P : Program} {W : World} {name : String} {k : IntKind} {zs : List Int} {g : Nat} (h : Lib.TabIs P W name k zs) (hg : P.globalNamed name = some g) : Rel (allSt W) W noGh (.tab k zs) (.pointer (some ⟨g, 0, none⟩)) := by
 unfold Lib.TabIs World.var? at h
 rw [hg] at h
 simp only [Option.bind_some] at h
 split at h
 ·rename_i cs t fr hb
  cases h
  refine .tab _ _ _ _ _ _ ?_ hb
  unfold allSt
  exact (Array.getElem?_eq_some_iff.1 hb).1
 ·cases h
section
variable {H : Type} {enc : TypeId × Value → H} {P : Program} {W : World} {t e : TypeId} {base : Nat} {v : Value} {d : DataW H} {ps : List MemPlace}
def fldV (b : Bool) (x : Value) : Prop := if b then ∃ s : ByteArray, x = .string s ∧ s.size ≤ 9223372036854775807 else ∃ n : Int, x = .int .i64 n ∧ -9223372036854775808 ≤ n ∧ n ≤ 9223372036854775807
theorem fld_of {spare : Nat → Bool} {held : Bool} {fuel : Nat} {tf : TypeId} {x : Value} {y : DataW H × List MemPlace} {b : Bool} (ht : P.underlying tf = some (if b then .string else .int .i64)) (h : DataW.trod enc P W base spare held fuel tf [x] = some y) : fldV b x := by
 cases b
 ·obtain ⟨n, e, _, hw⟩ := DataW.trod_int (by simpa using ht) h
  simp only [List.cons.injEq, and_true] at e
  refine ⟨n, e, ?_⟩
  have h3 : IntKind.i64.min ≤ n ∧ n ≤ 9223372036854775807 := by
   unfold Lit.wf at hw
   simpa using hw
  simp [IntKind.min, IntKind.signed, IntKind.bits] at h3
  omega
 ·obtain ⟨s, e, _, hw⟩ := DataW.trod_string (by simpa using ht) h
  simp only [List.cons.injEq, and_true] at e
  refine ⟨s, e, ?_⟩
  have : maxLen = 9223372036854775807 := rfl
  omega
theorem cells_of {spare : Nat → Bool} {held : Bool} {fuel : Nat} {fs : Array Field} {bs : List Bool} {cs : List Value} {y : DataW H × List MemPlace} (he : P.underlying e = some (.struct fs)) (hn : fs.size = bs.length) (ce : P.cellsOf e = bs.length)
  (hf : ∀ (i : Nat) (f : Field), fs[i]? = some f → f.offset = i ∧ P.cellsOf f.type = 1 ∧ P.underlying f.type = some (if bs.getD i true then .string else .int .i64))
  (h : DataW.trod enc P W base spare held fuel e cs = some y) : cs.length = bs.length ∧ ∀ i, i < bs.length → fldV (bs.getD i true) (cs.getD i undef) := by
 obtain ⟨xs, n, _, _, hl, hxl, hx⟩ := DataW.trod_struct he h
 rw [ce] at hl
 refine ⟨hl, fun i hi => ?_⟩
 obtain ⟨f, hff⟩ : ∃ f, fs[i]? = some f := ⟨fs[i], by simp [hn, hi]⟩
 obtain ⟨h1, h2, h3⟩ := hf i f hff
 have := hx i f hff
 rw [h1, h2] at this
 have e1 : (cs.drop i).take 1 = [cs.getD i undef] := by
  rw [List.drop_eq_getElem_cons (by omega), List.take_succ_cons, List.take_zero]
  simp [List.getD_eq_getElem?_getD, hl, hi]
 rw [e1, List.getElem?_eq_getElem (by omega)] at this
 exact fld_of h3 this
theorem fldV_one {b : Bool} {x : Value} (h : fldV b x) : x.oneCell' = true := by
 cases b
 ·obtain ⟨n, rfl, _⟩ := h; rfl
 ·obtain ⟨s, rfl, _⟩ := h; rfl
theorem open_rows {α : Type} [Inhabited α] {encA : α → List V} {dA : α} {fs : Array Field} {bs : List Bool} (ok : α → Prop) (ht : P.underlying t = some (.slice e)) (he : P.underlying e = some (.struct fs)) (hn : fs.size = bs.length) (ce : P.cellsOf e = bs.length) (_hpos : 0 < bs.length)
  (hf : ∀ (i : Nat) (f : Field), fs[i]? = some f → f.offset = i ∧ P.cellsOf f.type = 1 ∧ P.underlying f.type = some (if bs.getD i true then .string else .int .i64))
  (mk : ∀ cs : List Value, cs.length = bs.length → (∀ i, i < bs.length → fldV (bs.getD i true) (cs.getD i undef)) → ∃ a : α, ok a ∧ ∀ i, i < bs.length → Rel (allSt W) W noGh ((encA a).getD i .any) (cs.getD i undef))
  (hval : Value.okWide P W .any base t v) (h : DataW.Trod enc P W 0 (fun _ => true) true t v d ps) :
  ∃ l : List α, Rel (allSt W) W noGh (.arr bs.length l.length (encF encA dA l)) v ∧ (∀ a, a ∈ l → ok a) ∧ l.length ≤ 9223372036854775807 := by
 obtain ⟨fuel, hf'⟩ := h
 obtain ⟨a0, len0, cap0, rfl⟩ := okWide_slice ht hval
 simp only [Value.cells] at hf'
 rcases open_slice ht hf' with ⟨h1, h2⟩ | ⟨a, len, cap, m, n, D, Pl, h1, hb, hlc, hm, hz, hx, hcell⟩
 ·simp only [List.cons.injEq, Value.slice.injEq, and_true] at h1
  obtain ⟨rfl, rfl, rfl⟩ := h1
  exact ⟨[], .arr0 _ _ _, by simp, by simp⟩
 ·simp only [List.cons.injEq, Value.slice.injEq, and_true] at h1
  obtain ⟨rfl, rfl, rfl⟩ := h1
  simp only [if_true] at hz
  subst hz
  have hsp : a.spot = none := by
   unfold Value.okWide at hval
   rw [ht] at hval
   simp only [Cell.okWide, ht, Cell.ok] at hval
   exact hval.2.2.2.1
  obtain ⟨ab, ao, aas⟩ := a
  simp only at hsp
  subst hsp
  have each : ∀ i, i < len0 → ∃ q : α × List Value, ok q.1 ∧ q.2.length = bs.length ∧ (∀ j, j < bs.length → W.cell? ⟨ab, ao + i * bs.length + j, none⟩ = some (q.2.getD j undef) ∧ (q.2.getD j undef).oneCell' = true ∧ Rel (allSt W) W noGh ((encA q.1).getD j .any) (q.2.getD j undef)) := by
   intro i hi
   obtain ⟨cs', g1, g2⟩ := hcell i (by omega)
   rw [ce] at g1
   obtain ⟨_, hlen, hc⟩ := World.cells?_some g1
   obtain ⟨hl, hfv⟩ := cells_of he hn ce hf g2
   obtain ⟨a, hok, ha⟩ := mk cs' hl hfv
   refine ⟨(a, cs'), hok, hl, fun j hj => ⟨?_, fldV_one (hfv j hj), ha j hj⟩⟩
   have := hc j hj
   rw [add_plain, add_plain] at this
   rw [this, List.getElem?_eq_getElem (by omega)]
   simp [List.getD_eq_getElem?_getD, hl, hj]
  obtain ⟨q, hq⟩ := choose_lt each
  have hlen : ((List.range len0).map fun i => (q i).1).length = len0 := by simp
  have hget : ∀ i, i < len0 → ((List.range len0).map fun i => (q i).1).getD i dA = (q i).1 := fun i hi => by
   simp [List.getD_eq_getElem?_getD, hi]
  have hmm : maxLen = 9223372036854775807 := rfl
  refine ⟨(List.range len0).map fun i => (q i).1, ?_, ?_, by omega⟩
  ·rw [hlen]
   refine .arr _ _ _ _ ab ao m (fun i j => (q i).2.getD j undef) hlc (by omega) (fun hn hs => ?_) (fun i j hi hj => ((hq i hi).2.2 j hj).1) (fun i j hi hj => ((hq i hi).2.2 j hj).2.1) (fun i j hi hj => ?_)
   ·exact block_of_cell ((hq 0 hn).2.2 0 hs).1
   ·show Rel _ _ _ ((encA (((List.range len0).map fun i => (q i).1).getD i dA)).getD j .any) _
    rw [hget i hi]
    exact ((hq i hi).2.2 j hj).2.2
  ·intro a ha
   obtain ⟨i, hi, rfl⟩ := List.mem_map.1 ha
   exact (hq i (List.mem_range.1 hi)).1
end
def okP (x : Tq1) : Prop := x.1.length ≤ 9223372036854775807 ∧ x.2.1.length ≤ 9223372036854775807 ∧ (-9223372036854775808 ≤ x.2.2 ∧ x.2.2 ≤ 9223372036854775807)
end Go.Abs
