/- Part 28 of the proof: Open3, Open6, Open13, Mon54h, Open4. -/
import Derived.Test.YtfkhgbcggabkjaaGreatDoorMoncomZ27
import Derived.Deep.SlicePairs
import Derived.Lib.LaidTab
namespace Go.Abs
open Go Go.RowKit Go.ChangeShapes Go.WideShapes Go.ChangeAt Go.Deep
theorem rel_tab {P : Program} {W : World} {name : String} {k : IntKind} {zs : List Int} {g : Nat} (h : Lib.TabIs P W name k zs) (hg : P.globalNamed name = some g) : Rel (allSt W) W noGh (.tab k zs) (.pointer (some ⟨g, 0, none⟩)) := by
 unfold Lib.TabIs World.var? at h
 rw [hg] at h
 simp only [Option.bind_some] at h
 split at h
 ·rename_i cs t fr hb
  cases h
  refine .tab _ _ _ _ _ _ ?_ hb
  unfold allSt
  exact (Array.getElem?_eq_some_iff.1 hb).1
 ·cases h
section
variable {H : Type} {enc : TypeId × Value → H} {P : Program} {W : World} {t e : TypeId} {base : Nat} {v : Value} {d : DataW H} {ps : List MemPlace}
def fldV (b : Bool) (x : Value) : Prop := if b then ∃ s : ByteArray, x = .string s ∧ s.size ≤ 9223372036854775807 else ∃ n : Int, x = .int .i64 n ∧ -9223372036854775808 ≤ n ∧ n ≤ 9223372036854775807
theorem fld_of {spare : Nat → Bool} {held : Bool} {fuel : Nat} {tf : TypeId} {x : Value} {y : DataW H × List MemPlace} {b : Bool} (ht : P.underlying tf = some (if b then .string else .int .i64)) (h : DataW.trod enc P W base spare held fuel tf [x] = some y) : fldV b x := by
 cases b
 ·obtain ⟨n, e, _, hw⟩ := DataW.trod_int (by simpa using ht) h
  simp only [List.cons.injEq, and_true] at e
  refine ⟨n, e, ?_⟩
  have h3 : IntKind.i64.min ≤ n ∧ n ≤ 9223372036854775807 := by
   unfold Lit.wf at hw
   simpa using hw
  simp [IntKind.min, IntKind.signed, IntKind.bits] at h3
  omega
 ·obtain ⟨s, e, _, hw⟩ := DataW.trod_string (by simpa using ht) h
  simp only [List.cons.injEq, and_true] at e
  refine ⟨s, e, ?_⟩
  have : maxLen = 9223372036854775807 := rfl
  omega
end
end Go.Abs
namespace Go.Abs
open Go Go.RowKit Go.ChangeShapes Go.WideShapes Go.ChangeAt Go.Deep
section
variable {P : Program}
def OneT (P : Program) (t : TypeId) : Prop := ∀ (H : Type) (enc : TypeId × Value → H) (W : World) (base : Nat) (spare : Nat → Bool) (held : Bool) (fuel : Nat) (cs : List Value) (y : DataW H × List MemPlace), DataW.trod enc P W base spare held fuel t cs = some y → ∀ c, c ∈ cs → c.oneCell' = true
theorem one_int {t : TypeId} {k : IntKind} (ht : P.underlying t = some (.int k)) : OneT P t := by
 intro H enc W base spare held fuel cs y h c hc
 obtain ⟨n, e, _, _⟩ := DataW.trod_int ht h
 subst e
 obtain rfl : c = _ := by simpa using hc
 rfl
theorem one_str {t : TypeId} (ht : P.underlying t = some .string) : OneT P t := by
 intro H enc W base spare held fuel cs y h c hc
 obtain ⟨n, e, _, _⟩ := DataW.trod_string ht h
 subst e
 obtain rfl : c = _ := by simpa using hc
 rfl
theorem one_slice {t e : TypeId} (ht : P.underlying t = some (.slice e)) : OneT P t := by
 intro H enc W base spare held fuel cs y h c hc
 rcases DataW.trod_slice ht h with ⟨e1, _⟩ | ⟨a, len, cap, elems, rest, n, _, e1, _⟩
 ·subst e1
  obtain rfl : c = _ := by simpa using hc
  rfl
 ·subst e1
  obtain rfl : c = _ := by simpa using hc
  rfl
theorem one_struct {t : TypeId} {fs : Array Field} (ht : P.underlying t = some (.struct fs)) (hf : ∀ (i : Nat) (f : Field), fs[i]? = some f → OneT P f.type)
  (cover : ∀ j, j < P.cellsOf t → ∃ (i : Nat) (f : Field), fs[i]? = some f ∧ f.offset ≤ j ∧ j < f.offset + P.cellsOf f.type) : OneT P t := by
 intro H enc W base spare held fuel cs y h c hc
 obtain ⟨xs, n, _, _, hl, hxl, hx⟩ := DataW.trod_struct ht h
 obtain ⟨j, hj, rfl⟩ := List.getElem_of_mem hc
 obtain ⟨i, f, h1, h2, h3⟩ := cover j (by omega)
 have h4 := hx i f h1
 have hi : i < xs.length := by
  rw [hxl]
  exact (Array.getElem?_eq_some_iff.1 h1).1
 rw [List.getElem?_eq_getElem hi] at h4
 refine hf i f h1 _ _ _ _ _ _ _ _ _ h4 _ ?_
 refine List.mem_of_getElem? (i := j - f.offset) ?_
 rw [List.getElem?_take, if_pos (by omega), List.getElem?_drop, show f.offset + (j - f.offset) = j by omega, List.getElem?_eq_getElem hj]
theorem one_structB {t : TypeId} {fs : Array Field} (L : List TypeId) (ht : P.underlying t = some (.struct fs)) (hL : ∀ u, u ∈ L → OneT P u) (hf : (fs.toList.all fun f => L.contains f.type) = true)
  (hc : ((List.range (P.cellsOf t)).all fun j => fs.toList.any fun f => decide (f.offset ≤ j) && decide (j < f.offset + P.cellsOf f.type)) = true) : OneT P t := by
 refine one_struct ht (fun i f h => ?_) (fun j hj => ?_)
 ·have := List.all_eq_true.1 hf f (Array.mem_toList_iff.2 (Array.mem_of_getElem? h))
  exact hL _ (by simpa using this)
 ·have := List.all_eq_true.1 hc j (List.mem_range.2 hj)
  obtain ⟨f, hm, h2⟩ := List.any_eq_true.1 this
  simp only [Bool.and_eq_true, decide_eq_true_eq] at h2
  obtain ⟨i, hi, rfl⟩ := List.getElem_of_mem hm
  exact ⟨i, _, by rw [← Array.getElem?_toList, List.getElem?_eq_getElem hi], h2.1, h2.2⟩
end
section
variable {H : Type} {enc : TypeId × Value → H} {P : Program} {W : World} {t e : TypeId} {base : Nat} {v : Value} {d : DataW H} {ps : List MemPlace}
end
abbrev PtV := Int × Int × Int × Int × Int × List UInt8 × List UInt8
def i64B (n : Int) : Prop := -9223372036854775808 ≤ n ∧ n ≤ 9223372036854775807
end Go.Abs
namespace Go.Abs
open Go Go.RowKit Go.ChangeShapes Go.WideShapes Go.ChangeAt Go.Deep
theorem mem_all {H : Type} {P : Program} {e : TypeId} {n : Nat} {x : DataW H} : ∀ {L : List (DataW H)}, x ∈ L → n ∈ x.weights P e → n ∈ DataW.weightsAll P e L
 | [], h, _ => absurd h List.not_mem_nil
 | y :: L, h, hn => by
  unfold DataW.weightsAll
  rcases List.mem_cons.1 h with rfl | h
  ·exact List.mem_append_left _ hn
  ·exact List.mem_append_right _ (mem_all h hn)
theorem mem_each {H : Type} {P : Program} {n : Nat} {t : TypeId} {d : DataW H} : ∀ {j : Nat} {ts : List TypeId} {ds : List (DataW H)}, ts[j]? = some t → ds[j]? = some d → n ∈ d.weights P t → n ∈ DataW.weightsEach P ts ds
 | 0, [], _, h, _, _ => by cases h
 | _ + 1, [], _, h, _, _ => by cases h
 | 0, _ :: _, [], _, h, _ => by cases h
 | _ + 1, _ :: _, [], _, h, _ => by cases h
 | 0, t0 :: ts, d0 :: ds, h, h', hn => by
  cases h; cases h'
  unfold DataW.weightsEach
  exact List.mem_append_left _ hn
 | j + 1, t0 :: ts, d0 :: ds, h, h', hn => by
  unfold DataW.weightsEach
  exact List.mem_append_right _ (mem_each (j := j) (by simpa using h) (by simpa using h') hn)
def fldW (b : Bool) (x : Value) : Prop := if b then ∃ s : ByteArray, x = .string s ∧ s.size ≤ reachBytes else ∃ n : Int, x = .int .i64 n ∧ -9223372036854775808 ≤ n ∧ n ≤ 9223372036854775807
section
variable {H : Type} {enc : TypeId × Value → H} {P : Program} {W : World} {t e : TypeId} {base : Nat} {v : Value} {d : DataW H} {ps : List MemPlace}
theorem open_rowsW {α : Type} [Inhabited α] {encA : α → List V} {dA : α} {fs : Array Field} {bs : List Bool} {sz : Nat} (ok : α → Prop) (ht : P.underlying t = some (.slice e)) (he : P.underlying e = some (.struct fs)) (hn : bs.length ≤ fs.size) (ce : P.cellsOf e = sz) (hpos : bs.length ≤ sz) (_h0 : 0 < bs.length)
  (hone : OneT P e) (hf : ∀ (i : Nat) (f : Field), i < bs.length → fs[i]? = some f → f.offset = i ∧ P.cellsOf f.type = 1 ∧ P.underlying f.type = some (if bs.getD i true then .string else .int .i64))
  (hopq : ∀ a j, bs.length ≤ j → j < sz → (encA a).getD j .any = .opq)
  (mk : ∀ cs : List Value, (∀ i, i < bs.length → fldW (bs.getD i true) (cs.getD i undef)) → ∃ a : α, ok a ∧ ∀ i, i < bs.length → Rel (allSt W) W noGh ((encA a).getD i .any) (cs.getD i undef))
  (hwt : ∀ n, n ∈ d.weights P t → n ≤ reachBytes) (hval : Value.okWide P W .any base t v) (h : DataW.Trod enc P W 0 (fun _ => true) true t v d ps) :
  ∃ l : List α, Rel (allSt W) W noGh (.arr sz l.length (encF encA dA l)) v ∧ (∀ a, a ∈ l → ok a) ∧ l.length ≤ 9223372036854775807 := by
 obtain ⟨fuel, hf'⟩ := h
 obtain ⟨a0, len0, cap0, rfl⟩ := okWide_slice ht hval
 simp only [Value.cells] at hf'
 rcases open_slice ht hf' with ⟨h1, h2⟩ | ⟨a, len, cap, m, n, D, Pl, h1, hb, hlc, hm, hz, hx0, hcell⟩
 ·simp only [List.cons.injEq, Value.slice.injEq, and_true] at h1
  obtain ⟨rfl, rfl, rfl⟩ := h1
  exact ⟨[], .arr0 _ _ _, by simp, by simp⟩
 ·simp only [List.cons.injEq, Value.slice.injEq, and_true] at h1
  obtain ⟨rfl, rfl, rfl⟩ := h1
  simp only [if_true] at hz
  subst hz
  have hsp : a.spot = none := by
   unfold Value.okWide at hval
   rw [ht] at hval
   simp only [Cell.okWide, ht, Cell.ok] at hval
   exact hval.2.2.2.1
  obtain ⟨ab, ao, aas⟩ := a
  simp only at hsp
  subst hsp
  have each : ∀ i, i < len0 → ∃ q : α × List Value, ok q.1 ∧ q.2.length = sz ∧ (∀ j, j < sz → W.cell? ⟨ab, ao + i * sz + j, none⟩ = some (q.2.getD j undef) ∧ (q.2.getD j undef).oneCell' = true ∧ Rel (allSt W) W noGh ((encA q.1).getD j .any) (q.2.getD j undef)) := by
   intro i0 hi0
   obtain ⟨cs', g1, g2⟩ := hcell i0 (by omega)
   rw [ce] at g1
   obtain ⟨_, hlen, hc⟩ := World.cells?_some g1
   obtain ⟨xs, _, _, hxd, hl, hxl, hx⟩ := DataW.trod_struct he g2
   rw [ce] at hl
   have hfv : ∀ i, i < bs.length → fldW (bs.getD i true) (cs'.getD i undef) := by
    intro i hi
    obtain ⟨f, hff⟩ : ∃ f, fs[i]? = some f := ⟨fs[i], by simp [show i < fs.size by omega]⟩
    obtain ⟨h1, h2, h3⟩ := hf i f hi hff
    have := hx i f hff
    rw [h1, h2] at this
    have e1 : (cs'.drop i).take 1 = [cs'.getD i undef] := by
     rw [List.drop_eq_getElem_cons (by omega), List.take_succ_cons, List.take_zero]
     simp [List.getD_eq_getElem?_getD, show i < cs'.length by omega]
    rw [e1, List.getElem?_eq_getElem (by omega)] at this
    cases hb : bs.getD i true with
    | false =>
     rw [hb] at h3
     have h4 := fld_of (b := false) h3 this
     exact h4
    | true =>
     rw [hb, if_pos rfl] at h3
     obtain ⟨s, s1, s2, _⟩ := DataW.trod_string h3 this
     simp only [List.cons.injEq, and_true] at s1
     refine ⟨s, s1, ?_⟩
     have hmem : s.data.toList.length ∈ d.weights P t := by
      have hd : d = .slice ((List.range len0).map D) ((List.range (m - len0)).map fun j => D (len0 + j)) := congrArg Prod.fst hx0
      rw [hd]
      unfold DataW.weights
      rw [ht]
      refine List.mem_cons_of_mem _ (List.mem_append_left _ (mem_all (x := D i0) (List.mem_map.2 ⟨i0, List.mem_range.2 hi0, rfl⟩) ?_))
      have hD : D i0 = .agg (xs.map (·.1)) := congrArg Prod.fst hxd
      rw [hD]
      unfold DataW.weights
      rw [he]
      refine mem_each (j := i) (t := f.type) (d := .lit (.string s.data.toList)) ?_ ?_ ?_
      ·rw [List.getElem?_map, ← Array.getElem?_toList] at *
       simp [hff]
      ·rw [List.getElem?_map, List.getElem?_eq_getElem (by omega), s2]; rfl
      ·unfold DataW.weights; simp
     have := hwt _ hmem
     simpa using this
   obtain ⟨a, hok, ha⟩ := mk cs' hfv
   have h1c : ∀ j, j < sz → (cs'.getD j undef).oneCell' = true := fun j hj => by
    refine hone _ _ _ _ _ _ _ _ _ g2 _ ?_
    rw [List.getD_eq_getElem?_getD, List.getElem?_eq_getElem (by omega)]
    exact List.getElem_mem _
   refine ⟨(a, cs'), hok, hl, fun j hj => ⟨?_, h1c j hj, ?_⟩⟩
   ·have := hc j hj
    rw [add_plain, add_plain] at this
    rw [this, List.getElem?_eq_getElem (by omega)]
    simp [List.getD_eq_getElem?_getD, hl, hj]
   ·rcases Nat.lt_or_ge j bs.length with hj2 | hj2
    ·exact ha j hj2
    ·show Rel _ _ _ ((encA a).getD j .any) _
     rw [hopq a j hj2 hj]
     exact .opq _ _ (h1c j hj)
  obtain ⟨q, hq⟩ := choose_lt each
  have hlen : ((List.range len0).map fun i => (q i).1).length = len0 := by simp
  have hget : ∀ i, i < len0 → ((List.range len0).map fun i => (q i).1).getD i dA = (q i).1 := fun i hi => by
   simp [List.getD_eq_getElem?_getD, hi]
  have hmm : maxLen = 9223372036854775807 := rfl
  refine ⟨(List.range len0).map fun i => (q i).1, ?_, ?_, by omega⟩
  ·rw [hlen]
   refine .arr _ _ _ _ ab ao m (fun i j => (q i).2.getD j undef) hlc (by omega) (fun hn hs => ?_) (fun i j hi hj => ((hq i hi).2.2 j hj).1) (fun i j hi hj => ((hq i hi).2.2 j hj).2.1) (fun i j hi hj => ?_)
   ·exact block_of_cell ((hq 0 hn).2.2 0 hs).1
   ·show Rel _ _ _ ((encA (((List.range len0).map fun i => (q i).1).getD i dA)).getD j .any) _
    rw [hget i hi]
    exact ((hq i hi).2.2 j hj).2.2
  ·intro a ha
   obtain ⟨i, hi, rfl⟩ := List.mem_map.1 ha
   exact (hq i (List.mem_range.1 hi)).1
end
def okPtW (x : PtV) : Prop := i64B x.1 ∧ i64B x.2.1 ∧ i64B x.2.2.1 ∧ i64B x.2.2.2.1 ∧ i64B x.2.2.2.2.1 ∧ x.2.2.2.2.2.1.length ≤ 140737488355328 ∧ x.2.2.2.2.2.2.length ≤ 140737488355328
theorem mkPtW {W : World} {encA : PtV → List V} (henc : ∀ a i, i < 7 → (encA a).getD i .any = ([.int .i64 a.1, .int .i64 a.2.1, .int .i64 a.2.2.1, .int .i64 a.2.2.2.1, .int .i64 a.2.2.2.2.1, .str a.2.2.2.2.2.1, .str a.2.2.2.2.2.2] : List V).getD i .any) (cs : List Value) (hf : ∀ i, i < [false, false, false, false, false, true, true].length → fldW ([false, false, false, false, false, true, true].getD i true) (cs.getD i undef)) :
  ∃ a : PtV, okPtW a ∧ ∀ i, i < [false, false, false, false, false, true, true].length → Rel (allSt W) W noGh ((encA a).getD i .any) (cs.getD i undef) := by
 obtain ⟨n0, h0, b0⟩ := hf 0 (by decide)
 obtain ⟨n1, h1, b1⟩ := hf 1 (by decide)
 obtain ⟨n2, h2, b2⟩ := hf 2 (by decide)
 obtain ⟨n3, h3, b3⟩ := hf 3 (by decide)
 obtain ⟨n4, h4, b4⟩ := hf 4 (by decide)
 obtain ⟨s5, h5, b5⟩ := hf 5 (by decide)
 obtain ⟨s6, h6, b6⟩ := hf 6 (by decide)
 refine ⟨(n0, n1, n2, n3, n4, s5.data.toList, s6.data.toList), ⟨b0, b1, b2, b3, b4, by have : reachBytes = 140737488351232 := rfl; have : s5.data.toList.length = s5.size := rfl; show s5.data.toList.length ≤ _; omega, by have : reachBytes = 140737488351232 := rfl; have : s6.data.toList.length = s6.size := rfl; show s6.data.toList.length ≤ _; omega⟩, fun i hi => ?_⟩
 rw [henc _ i hi]
 match i, hi with
 | 0, _ => rw [h0]; exact .int _ _ _
 | 1, _ => rw [h1]; exact .int _ _ _
 | 2, _ => rw [h2]; exact .int _ _ _
 | 3, _ => rw [h3]; exact .int _ _ _
 | 4, _ => rw [h4]; exact .int _ _ _
 | 5, _ => rw [h5]; exact .str _ _ _ rfl
 | 6, _ => rw [h6]; exact .str _ _ _ rfl
end Go.Abs
namespace Go.Abs
theorem f10_true (x1 x2 x3 : Int) (x4 : List Dr27) (x5 : List Y51) (h1 : 0 ≤ x1 ∧ x1 ≤ 255) (h2 : 0 ≤ x2 ∧ x2 ≤ 255) (h3 : 0 ≤ x3 ∧ x3 ≤ 255) (h4 : ∀ d ∈ x4, okDr d) (ht : ∀ p ∈ x5, okPtW p) (h5 : x5.length ≤ 9223372036854775807) : f10 x1 x2 x3 x4 x5 = some true := by
 obtain ⟨b, hb, hb2⟩ := f16_few x5 h5 (fun p hp => ⟨(ht p hp).2.2.2.2.2.1, (ht p hp).2.2.2.2.2.2⟩)
 unfold f10
 rw [f11_true, some_bind]
 show optc true _ _ = _
 rw [optc_t, hb, some_bind]
 cases b with
 | false => rw [if_pos (by rfl), some_bind]
 | true =>
  obtain ⟨h60, htx⟩ := hb2 rfl
  obtain ⟨q, q1, q2⟩ := f28_some x1 x2 x3 x4 h1 h2 h3 h4
  obtain ⟨out, o1, o2, o3, o4⟩ := common_both x5 (by omega) 20000 htx
  rw [if_neg (by simp), q1, some_bind, o1, some_bind, o2, some_bind, f15_refl out (by omega), some_bind, if_pos rfl]
  obtain ⟨L, l1, l2, l3⟩ := epo_both (x1 := q.1) (x2 := q.2.2.1) (x3 := q.2.1) (x4 := q.2.2.2.1) (x5 := q.2.2.2.2.1) (x6 := q.2.2.2.2.2) (by omega) out (by omega) (fun v hv => by have := o4 v hv; omega) (fun l => some l) (fun l => some l) out.length FUEL FUEL 0 0 false [((0 : Int), false)] (by omega) (fuel_lt (by omega)) (fuel_lt (by omega)) rfl rfl
  have e34 : f34 q.1 q.2.2.1 q.2.1 q.2.2.2.1 q.2.2.2.2.1 q.2.2.2.2.2 x5 = some L := by
   unfold f34
   rw [jn_eq, o1, some_bind]
   exact l1
  have e35 : f35 q.1 q.2.2.1 q.2.1 q.2.2.2.1 q.2.2.2.2.1 q.2.2.2.2.2 x5 = some L := by
   unfold f35
   rw [o2, some_bind, jn_eq]
   exact l2
  rw [e34, some_bind, e35, some_bind, f33_refl L (by omega), some_bind]
end Go.Abs
namespace Go.Abs
open Go Go.RowKit Go.ChangeShapes Go.WideShapes Go.ChangeAt Go.Deep
section
variable {P : Program} {W : World} {t e : TypeId} {base : Nat} {v : Value}
end
end Go.Abs
