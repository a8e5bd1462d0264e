/- Part 28 of the proof: Open2, Open8. -/
import Derived.Test.YtjgboohpholnbaaGreatDoorTpcomZ27
import Derived.Deep.SlicePairs
namespace Go.Abs
open Go Go.RowKit Go.ChangeShapes Go.WideShapes Go.ChangeAt Go.Deep
def encP (x : Tq0) : List V := [.b16 x.1, .b16 x.2]
theorem rel_pairs {W : World} {b o cap : Nat} {l : List Tq0} (hcap : l.length ≤ cap) (hm : cap ≤ maxLen)
  (hc : ∀ j, j < l.length → W.cell? ⟨b, o + j * 2, none⟩ = some (.int .u16 ((l.getD j default).1.toNat : Int)) ∧ W.cell? ⟨b, o + (j * 2 + 1), none⟩ = some (.int .u16 ((l.getD j default).2.toNat : Int))) :
  Rel (allSt W) W noGh (.arr 2 l.length (encF encP default l)) (.slice (some ⟨b, o, none⟩) l.length cap) := by
 refine .arr _ 2 _ _ b o cap (fun i j => if j = 0 then .int .u16 ((l.getD i default).1.toNat : Int) else .int .u16 ((l.getD i default).2.toNat : Int)) hcap (Nat.le_trans hcap hm) (fun hn _ => block_of_cell (hc 0 hn).1) (fun i j hi hj => ?_) (fun i j _ _ => ?_) (fun i j hi hj => ?_)
 ·match j, hj with
  | 0, _ => simpa using (hc i hi).1
  | 1, _ => simpa [Nat.add_assoc] using (hc i hi).2
 ·match j with
  | 0 => rfl
  | j + 1 => rfl
 ·match j, hj with
  | 0, _ => exact .b16 _ _
  | 1, _ => exact .b16 _ _
section
variable {H : Type} {enc : TypeId × Value → H} {P : Program} {W : World} {t e : TypeId} {base : Nat} {v : Value} {d : DataW H} {ps : List MemPlace}
theorem open_pairs {f0 f1 : Field} (ht : P.underlying t = some (.slice e)) (he : P.underlying e = some (.struct #[f0, f1])) (ce : P.cellsOf e = 2) (o0 : f0.offset = 0) (o1 : f1.offset = 1) (c0 : P.cellsOf f0.type = 1) (c1 : P.cellsOf f1.type = 1)
  (t0 : P.underlying f0.type = some (.int .u16)) (t1 : P.underlying f1.type = some (.int .u16))
  (hval : Value.okWide P W .any base t v) (h : DataW.Trod enc P W 0 (fun _ => true) true t v d ps) :
  ∃ l : List Tq0, Rel (allSt W) W noGh (.arr 2 l.length (encF encP default l)) v := by
 obtain ⟨fuel, hf⟩ := h
 obtain ⟨a0, len0, cap0, rfl⟩ := okWide_slice ht hval
 simp only [Value.cells] at hf
 rcases open_slice_pairs ht he ce o0 o1 c0 c1 hf with ⟨h1, h2⟩ | ⟨a, len, cap, m, n, V0, V1, D0, D1, P0, P1, h1, hb, hlc, hm, hz, hx, hcell⟩
 ·simp only [List.cons.injEq, Value.slice.injEq, and_true] at h1
  obtain ⟨rfl, rfl, rfl⟩ := h1
  exact ⟨[], .arr0 _ _ _⟩
 ·simp only [List.cons.injEq, Value.slice.injEq, and_true] at h1
  obtain ⟨rfl, rfl, rfl⟩ := h1
  simp only [if_true] at hz
  subst hz
  have hsp : a.spot = none := by
   unfold Value.okWide at hval
   rw [ht] at hval
   simp only [Cell.okWide, ht, Cell.ok] at hval
   exact hval.2.2.2.1
  obtain ⟨ab, ao, aas⟩ := a
  simp only at hsp
  subst hsp
  have each : ∀ i, ∃ q : Tq0, i < len0 → W.cell? ⟨ab, ao + i * 2, none⟩ = some (.int .u16 (q.1.toNat : Int)) ∧ W.cell? ⟨ab, ao + (i * 2 + 1), none⟩ = some (.int .u16 (q.2.toNat : Int)) := by
   intro i
   by_cases hi : i < len0
   ·obtain ⟨g1, g2, g3, g4⟩ := hcell i (by omega)
    obtain ⟨n0, e0, _, w0⟩ := DataW.trod_int t0 g3
    obtain ⟨n1, e1, _, w1⟩ := DataW.trod_int t1 g4
    simp only [List.cons.injEq, and_true] at e0 e1
    rw [e0, add_plain] at g1
    rw [e1, add_plain] at g2
    refine ⟨(BitVec.ofInt 16 n0, BitVec.ofInt 16 n1), fun _ => ?_⟩
    rw [g1, g2, ofInt_u16 w0, ofInt_u16 w1]
    exact ⟨rfl, rfl⟩
   ·exact ⟨default, fun h => absurd h hi⟩
  have hlen : ((List.range len0).map fun i => Classical.choose (each i)).length = len0 := by simp
  refine ⟨(List.range len0).map fun i => Classical.choose (each i), ?_⟩
  have := rel_pairs (W := W) (b := ab) (o := ao) (cap := m) (l := (List.range len0).map fun i => Classical.choose (each i)) (by omega) hm (fun j hj => by
   have hj' : j < len0 := by omega
   have e1 : ((List.range len0).map fun i => Classical.choose (each i)).getD j default = Classical.choose (each j) := by
    simp [List.getD_eq_getElem?_getD, hj']
   rw [e1]
   exact Classical.choose_spec (each j) hj')
  rw [hlen] at this
  rw [hlen]
  exact this
end
end Go.Abs
namespace Go.Abs
open Go Go.RowKit Go.ChangeShapes Go.WideShapes Go.ChangeAt Go.Deep
section
variable {H : Type} {enc : TypeId × Value → H} {P : Program} {W : World} {base : Nat}
theorem take1_drop {α : Type} (l : List α) (i : Nat) (d : α) (h : i < l.length) : (l.drop i).take 1 = [l.getD i d] := by
 rw [List.getD_eq_getElem?_getD, List.getElem?_eq_getElem h, List.drop_eq_getElem_cons h]
 rfl
theorem take1_in {α : Type} (l : List α) (a b j : Nat) (d : α) (hj : j < b) (h : a + j < l.length) : (((l.drop a).take b).drop j).take 1 = [l.getD (a + j) d] := by
 rw [← take1_drop l (a + j) d h, List.drop_take, List.drop_drop, List.take_take]
 congr 1
 omega
theorem okWide_cint {u : TypeId} {k : IntKind} {x : Value} (hu : P.underlying u = some (.int k)) (h : Cell.okWide P W .any base u x) : Value.okWide P W .any base u x := by
 unfold Value.okWide; rw [hu]; exact h
theorem okWide_cslice {u e : TypeId} {x : Value} (hu : P.underlying u = some (.slice e)) (h : Cell.okWide P W .any base u x) : Value.okWide P W .any base u x := by
 unfold Value.okWide; rw [hu]; exact h
theorem leaf_words {ts e : TypeId} {x : Value} {n : Nat} {y : DataW H × List MemPlace} (hts : P.underlying ts = some (.slice e)) (he : P.underlying e = some (.int .u16)) (hce : P.cellsOf e = 1)
  (hw : Value.okWide P W .any base ts x) (h : DataW.trod enc P W 0 (fun _ => true) true n ts [x] = some y) : ∃ l : List (BitVec 16), Rel (allSt W) W noGh (.arr 1 l.length (encF (fun x => [.b16 x]) 0#16 l)) x := by
 obtain ⟨a, ln, c, rfl⟩ := okWide_slice hts hw
 obtain ⟨l, h1, _⟩ := open_words (d := y.1) (ps := y.2) hts he hce hw ⟨n, h⟩
 exact ⟨l, h1⟩
theorem leaf_pairs {ts e : TypeId} {f0 f1 : Field} {x : Value} {n : Nat} {y : DataW H × List MemPlace} (hts : P.underlying ts = some (.slice e)) (he : P.underlying e = some (.struct #[f0, f1])) (ce : P.cellsOf e = 2) (o0 : f0.offset = 0) (o1 : f1.offset = 1) (c0 : P.cellsOf f0.type = 1) (c1 : P.cellsOf f1.type = 1)
  (t0 : P.underlying f0.type = some (.int .u16)) (t1 : P.underlying f1.type = some (.int .u16))
  (hw : Value.okWide P W .any base ts x) (h : DataW.trod enc P W 0 (fun _ => true) true n ts [x] = some y) : ∃ l : List Tq0, Rel (allSt W) W noGh (.arr 2 l.length (encF encP default l)) x := by
 obtain ⟨a, ln, c, rfl⟩ := okWide_slice hts hw
 exact open_pairs (d := y.1) (ps := y.2) hts he ce o0 o1 c0 c1 t0 t1 hw ⟨n, h⟩
theorem draft_slices {td tu tw tf : TypeId} {g0 g1 g2 g3 g4 g5 : Field} {M : List Value} {n : Nat} {y : DataW H × List MemPlace} (hd : P.underlying td = some (.struct #[g0, g1, g2, g3, g4, g5]))
  (h3 : g3.offset = 3 ∧ g3.type = tw) (h4 : g4.offset = 4 ∧ g4.type = tw) (h5 : g5.offset = 5 ∧ g5.type = tf) (cw : P.cellsOf tw = 1) (cf : P.cellsOf tf = 1) (h : DataW.trod enc P W 0 (fun _ => true) true n td M = some y) :
  ∃ n' y3 y4 y5, DataW.trod enc P W 0 (fun _ => true) true n' tw ((M.drop 3).take 1) = some y3 ∧ DataW.trod enc P W 0 (fun _ => true) true n' tw ((M.drop 4).take 1) = some y4 ∧ DataW.trod enc P W 0 (fun _ => true) true n' tf ((M.drop 5).take 1) = some y5 := by
 obtain ⟨xs, n', _, _, _, hxl, hf⟩ := DataW.trod_struct hd h
 have e3 := hf 3 g3 rfl
 have e4 := hf 4 g4 rfl
 have e5 := hf 5 g5 rfl
 have hxl' : xs.length = 6 := hxl
 rw [h3.1, h3.2, cw, List.getElem?_eq_getElem (by omega)] at e3
 rw [h4.1, h4.2, cw, List.getElem?_eq_getElem (by omega)] at e4
 rw [h5.1, h5.2, cf, List.getElem?_eq_getElem (by omega)] at e5
 exact ⟨n', _, _, _, e3, e4, e5⟩
theorem open_deal {t td tu tw t16 tf te ts : TypeId} {v : Value} {d : DataW H} {ps : List MemPlace} {fA fB fW fM g0 g1 g2 g3 g4 g5 f0 f1 : Field}
  (ht : P.underlying t = some (.struct #[fA, fB, fW, fM])) (hA : fA.offset = 0 ∧ fA.type = td) (hB : fB.offset = 6 ∧ fB.type = td) (hM : fM.offset = 13 ∧ fM.type = tf)
  (hd : P.underlying td = some (.struct #[g0, g1, g2, g3, g4, g5])) (h3 : g3.offset = 3 ∧ g3.type = tw) (h4 : g4.offset = 4 ∧ g4.type = tw) (h5 : g5.offset = 5 ∧ g5.type = tf)
  (hc : P.cellsOf t = 14) (hcd : P.cellsOf td = 6) (cw : P.cellsOf tw = 1) (cf : P.cellsOf tf = 1) (c16 : P.cellsOf t16 = 1)
  (hct : P.cellTypes P.depth t = some [tu, tu, tu, tw, tw, tf, tu, tu, tu, tw, tw, tf, ts, tf])
  (htu : P.underlying tu = some (.int .u8)) (htw : P.underlying tw = some (.slice t16)) (ht16 : P.underlying t16 = some (.int .u16)) (htf : P.underlying tf = some (.slice te)) (hts : P.underlying ts = some (.int .u16))
  (he : P.underlying te = some (.struct #[f0, f1])) (ce : P.cellsOf te = 2) (o0 : f0.offset = 0) (o1 : f1.offset = 1) (c0 : P.cellsOf f0.type = 1) (c1 : P.cellsOf f1.type = 1)
  (t0 : P.underlying f0.type = some (.int .u16)) (t1 : P.underlying f1.type = some (.int .u16))
  (hval : Value.okWide P W .any base t v) (h : DataW.Trod enc P W 0 (fun _ => true) true t v d ps) :
  ∃ (k1 n1 m1 : Int) (r1 w1 : List (BitVec 16)) (l1 : List Tq0) (k2 n2 m2 : Int) (r2 w2 : List (BitVec 16)) (l2 : List Tq0) (s : BitVec 16) (l3 : List Tq0),
   (0 ≤ k1 ∧ k1 ≤ 255) ∧ (0 ≤ n1 ∧ n1 ≤ 255) ∧ (0 ≤ m1 ∧ m1 ≤ 255) ∧
   Rel (allSt W) W noGh (.agg [.int .u8 k1, .int .u8 n1, .int .u8 m1, .arr 1 r1.length (encF (fun x => [.b16 x]) 0#16 r1), .arr 1 w1.length (encF (fun x => [.b16 x]) 0#16 w1), .arr 2 l1.length (encF encP default l1),
    .int .u8 k2, .int .u8 n2, .int .u8 m2, .arr 1 r2.length (encF (fun x => [.b16 x]) 0#16 r2), .arr 1 w2.length (encF (fun x => [.b16 x]) 0#16 w2), .arr 2 l2.length (encF encP default l2), .b16 s, .arr 2 l3.length (encF encP default l3)]) v := by
 unfold Value.okWide at hval
 rw [ht] at hval
 obtain ⟨cs, rfl, hsz, ts', hts', _, hcell⟩ := hval
 rw [hct] at hts'
 cases hts'
 rw [hc] at hsz
 obtain ⟨fuel, hf⟩ := h
 have hcl : (Value.agg cs).cells.toList = cs.toList := rfl
 rw [hcl] at hf
 obtain ⟨xs, n, _, _, _, hxl, hfld⟩ := DataW.trod_struct ht hf
 have hxl' : xs.length = 4 := hxl
 have hLl : cs.toList.length = 14 := by simpa using hsz
 have hg : ∀ i, cs.toList.getD i undef = cs.getD i undef := fun i => by simp [List.getD_eq_getElem?_getD]
 have eA := hfld 0 fA rfl
 have eB := hfld 1 fB rfl
 have eM := hfld 3 fM rfl
 rw [hA.1, hA.2, hcd, List.getElem?_eq_getElem (by omega)] at eA
 rw [hB.1, hB.2, hcd, List.getElem?_eq_getElem (by omega)] at eB
 rw [hM.1, hM.2, cf, List.getElem?_eq_getElem (by omega), take1_drop _ 13 undef (by omega), hg] at eM
 obtain ⟨na, ya3, ya4, ya5, A3, A4, A5⟩ := draft_slices (tu := tu) hd h3 h4 h5 cw cf eA
 obtain ⟨nb, yb3, yb4, yb5, B3, B4, B5⟩ := draft_slices (tu := tu) hd h3 h4 h5 cw cf eB
 rw [take1_in _ _ _ _ undef (by omega) (by omega), hg] at A3 A4 A5 B3 B4 B5
 have hv : ∀ i, i < 14 → cs[i]? = some (cs.getD i undef) := fun i hi => by simp [hsz, hi]
 have cell : ∀ i u, i < 14 → [tu, tu, tu, tw, tw, tf, tu, tu, tu, tw, tw, tf, ts, tf][i]? = some u → Cell.okWide P W .any base u (cs.getD i undef) := fun i u hi hu => by
  obtain ⟨u', hu', hk⟩ := hcell i _ (hv i hi)
  rw [Nat.mod_eq_of_lt (show i < [tu, tu, tu, tw, tw, tf, tu, tu, tu, tw, tw, tf, ts, tf].length from hi), hu] at hu'
  cases hu'
  exact hk
 obtain ⟨k1, e0, a0, b0⟩ := open_u8 htu (okWide_cint htu (cell 0 tu (by omega) rfl))
 obtain ⟨n1, e1, a1, b1⟩ := open_u8 htu (okWide_cint htu (cell 1 tu (by omega) rfl))
 obtain ⟨m1, e2, a2, b2⟩ := open_u8 htu (okWide_cint htu (cell 2 tu (by omega) rfl))
 obtain ⟨r1, e3⟩ := leaf_words htw ht16 c16 (okWide_cslice htw (cell 3 tw (by omega) rfl)) A3
 obtain ⟨w1, e4⟩ := leaf_words htw ht16 c16 (okWide_cslice htw (cell 4 tw (by omega) rfl)) A4
 obtain ⟨l1, e5⟩ := leaf_pairs htf he ce o0 o1 c0 c1 t0 t1 (okWide_cslice htf (cell 5 tf (by omega) rfl)) A5
 obtain ⟨k2, e6, _, _⟩ := open_u8 htu (okWide_cint htu (cell 6 tu (by omega) rfl))
 obtain ⟨n2, e7, _, _⟩ := open_u8 htu (okWide_cint htu (cell 7 tu (by omega) rfl))
 obtain ⟨m2, e8, _, _⟩ := open_u8 htu (okWide_cint htu (cell 8 tu (by omega) rfl))
 obtain ⟨r2, e9⟩ := leaf_words htw ht16 c16 (okWide_cslice htw (cell 9 tw (by omega) rfl)) B3
 obtain ⟨w2, e10⟩ := leaf_words htw ht16 c16 (okWide_cslice htw (cell 10 tw (by omega) rfl)) B4
 obtain ⟨l2, e11⟩ := leaf_pairs htf he ce o0 o1 c0 c1 t0 t1 (okWide_cslice htf (cell 11 tf (by omega) rfl)) B5
 obtain ⟨s, e12⟩ := open_word hts (okWide_cint hts (cell 12 ts (by omega) rfl))
 obtain ⟨l3, e13⟩ := leaf_pairs htf he ce o0 o1 c0 c1 t0 t1 (okWide_cslice htf (cell 13 tf (by omega) rfl)) eM
 refine ⟨k1, n1, m1, r1, w1, l1, k2, n2, m2, r2, w2, l2, s, l3, ⟨a0, b0⟩, ⟨a1, b1⟩, ⟨a2, b2⟩, .agg _ _ _ (by simp [hsz]) fun i hi => ?_⟩
 have hi' : i < 14 := hi
 match i, hi' with
 | 0, _ => show Rel _ _ _ (.int .u8 k1) (cs.getD 0 undef); rw [e0]; exact .int _ _ _
 | 1, _ => show Rel _ _ _ (.int .u8 n1) (cs.getD 1 undef); rw [e1]; exact .int _ _ _
 | 2, _ => show Rel _ _ _ (.int .u8 m1) (cs.getD 2 undef); rw [e2]; exact .int _ _ _
 | 3, _ => exact e3
 | 4, _ => exact e4
 | 5, _ => exact e5
 | 6, _ => show Rel _ _ _ (.int .u8 k2) (cs.getD 6 undef); rw [e6]; exact .int _ _ _
 | 7, _ => show Rel _ _ _ (.int .u8 n2) (cs.getD 7 undef); rw [e7]; exact .int _ _ _
 | 8, _ => show Rel _ _ _ (.int .u8 m2) (cs.getD 8 undef); rw [e8]; exact .int _ _ _
 | 9, _ => exact e9
 | 10, _ => exact e10
 | 11, _ => exact e11
 | 12, _ => show Rel _ _ _ (.b16 s) (cs.getD 12 undef); rw [e12]; exact .b16 _ _
 | 13, _ => exact e13
end
end Go.Abs
