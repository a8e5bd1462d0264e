/- Part 25 of the proof: Open2. -/
import Derived.Test.YtmcmhjdmilgoeaaGreatDoorZ24
import Derived.Deep.SlicePairs
namespace Go.Abs
open Go Go.RowKit Go.ChangeShapes Go.WideShapes Go.ChangeAt Go.Deep
def encP (x : BitVec 16 × BitVec 16) : List V := [.b16 x.1, .b16 x.2]
theorem rel_pairs {W : World} {b o cap : Nat} {l : List (BitVec 16 × BitVec 16)} (hcap : l.length ≤ cap) (hm : cap ≤ maxLen)
    (hc : ∀ j, j < l.length → W.cell? ⟨b, o + j * 2, none⟩ = some (.int .u16 ((l.getD j default).1.toNat : Int)) ∧ W.cell? ⟨b, o + (j * 2 + 1), none⟩ = some (.int .u16 ((l.getD j default).2.toNat : Int))) :
    Rel (allSt W) W noGh (.arr 2 l.length (encF encP default l)) (.slice (some ⟨b, o, none⟩) l.length cap) := by
  refine .arr _ 2 _ _ b o cap (fun i j => if j = 0 then .int .u16 ((l.getD i default).1.toNat : Int) else .int .u16 ((l.getD i default).2.toNat : Int)) hcap (Nat.le_trans hcap hm) (fun hn _ => block_of_cell (hc 0 hn).1) (fun i j hi hj => ?_) (fun i j _ _ => ?_) (fun i j hi hj => ?_)
  · match j, hj with
    | 0, _ => simpa using (hc i hi).1
    | 1, _ => simpa [Nat.add_assoc] using (hc i hi).2
  · match j with
    | 0 => rfl
    | j + 1 => rfl
  · match j, hj with
    | 0, _ => exact .b16 _ _
    | 1, _ => exact .b16 _ _
section
variable {H : Type} {enc : TypeId × Value → H} {P : Program} {W : World} {t e : TypeId} {base : Nat} {v : Value} {d : DataW H} {ps : List MemPlace}
theorem open_pairs {f0 f1 : Field} (ht : P.underlying t = some (.slice e)) (he : P.underlying e = some (.struct #[f0, f1])) (ce : P.cellsOf e = 2) (o0 : f0.offset = 0) (o1 : f1.offset = 1) (c0 : P.cellsOf f0.type = 1) (c1 : P.cellsOf f1.type = 1)
    (t0 : P.underlying f0.type = some (.int .u16)) (t1 : P.underlying f1.type = some (.int .u16))
    (hval : Value.okWide P W .any base t v) (h : DataW.Trod enc P W 0 (fun _ => true) true t v d ps) :
    ∃ l : List (BitVec 16 × BitVec 16), Rel (allSt W) W noGh (.arr 2 l.length (encF encP default l)) v := by
  obtain ⟨fuel, hf⟩ := h
  obtain ⟨a0, len0, cap0, rfl⟩ := okWide_slice ht hval
  simp only [Value.cells] at hf
  rcases open_slice_pairs ht he ce o0 o1 c0 c1 hf with ⟨h1, h2⟩ | ⟨a, len, cap, m, n, V0, V1, D0, D1, P0, P1, h1, hb, hlc, hm, hz, hx, hcell⟩
  · simp only [List.cons.injEq, Value.slice.injEq, and_true] at h1
    obtain ⟨rfl, rfl, rfl⟩ := h1
    exact ⟨[], .arr0 _ _ _⟩
  · simp only [List.cons.injEq, Value.slice.injEq, and_true] at h1
    obtain ⟨rfl, rfl, rfl⟩ := h1
    simp only [if_true] at hz
    subst hz
    have hsp : a.spot = none := by
      unfold Value.okWide at hval
      rw [ht] at hval
      simp only [Cell.okWide, ht, Cell.ok] at hval
      exact hval.2.2.2.1
    obtain ⟨ab, ao, aas⟩ := a
    simp only at hsp
    subst hsp
    have each : ∀ i, ∃ q : BitVec 16 × BitVec 16, i < len0 → W.cell? ⟨ab, ao + i * 2, none⟩ = some (.int .u16 (q.1.toNat : Int)) ∧ W.cell? ⟨ab, ao + (i * 2 + 1), none⟩ = some (.int .u16 (q.2.toNat : Int)) := by
      intro i
      by_cases hi : i < len0
      · obtain ⟨g1, g2, g3, g4⟩ := hcell i (by omega)
        obtain ⟨n0, e0, _, w0⟩ := DataW.trod_int t0 g3
        obtain ⟨n1, e1, _, w1⟩ := DataW.trod_int t1 g4
        simp only [List.cons.injEq, and_true] at e0 e1
        rw [e0, add_plain] at g1
        rw [e1, add_plain] at g2
        refine ⟨(BitVec.ofInt 16 n0, BitVec.ofInt 16 n1), fun _ => ?_⟩
        rw [g1, g2, ofInt_u16 w0, ofInt_u16 w1]
        exact ⟨rfl, rfl⟩
      · exact ⟨default, fun h => absurd h hi⟩
    have hlen : ((List.range len0).map fun i => Classical.choose (each i)).length = len0 := by simp
    refine ⟨(List.range len0).map fun i => Classical.choose (each i), ?_⟩
    have := rel_pairs (W := W) (b := ab) (o := ao) (cap := m) (l := (List.range len0).map fun i => Classical.choose (each i)) (by omega) hm (fun j hj => by
      have hj' : j < len0 := by omega
      have e1 : ((List.range len0).map fun i => Classical.choose (each i)).getD j default = Classical.choose (each j) := by
        simp [List.getD_eq_getElem?_getD, hj']
      rw [e1]
      exact Classical.choose_spec (each j) hj')
    rw [hlen] at this
    rw [hlen]
    exact this
/-- such a struct -/
theorem open_pair {f0 f1 : Field} {ta tb : TypeId} (ht : P.underlying t = some (.struct #[f0, f1])) (hc : P.cellsOf t = 2) (hct : P.cellTypes P.depth t = some [ta, tb])
    (h0 : P.underlying ta = some (.int .u16)) (h1 : P.underlying tb = some (.int .u16)) (hval : Value.okWide P W .any base t v) :
    ∃ x : BitVec 16 × BitVec 16, Rel (allSt W) W noGh (.agg [.b16 x.1, .b16 x.2]) v := by
  unfold Value.okWide at hval
  rw [ht] at hval
  obtain ⟨cs, rfl, hsz, ts', hts', _, hcell⟩ := hval
  rw [hct] at hts'
  cases hts'
  rw [hc] at hsz
  have hv0 : cs[0]? = some (cs.getD 0 undef) := by simp [hsz]
  have hv1 : cs[1]? = some (cs.getD 1 undef) := by simp [hsz]
  obtain ⟨u0, hu0, hk0⟩ := hcell 0 _ hv0
  obtain ⟨u1, hu1, hk1⟩ := hcell 1 _ hv1
  simp at hu0 hu1
  subst hu0 hu1
  have hw0 : Value.okWide P W .any base ta (cs.getD 0 undef) := by unfold Value.okWide; rw [h0]; exact hk0
  have hw1 : Value.okWide P W .any base tb (cs.getD 1 undef) := by unfold Value.okWide; rw [h1]; exact hk1
  obtain ⟨x, hx⟩ := open_word h0 hw0
  obtain ⟨y, hy⟩ := open_word h1 hw1
  refine ⟨(x, y), .agg _ _ _ (by simp [hsz]) fun i hi => ?_⟩
  have hi' : i < 2 := hi
  match i, hi' with
  | 0, _ =>
    show Rel _ _ _ (.b16 x) (cs.getD 0 undef)
    rw [hx]; exact .b16 _ _
  | 1, _ =>
    show Rel _ _ _ (.b16 y) (cs.getD 1 undef)
    rw [hy]; exact .b16 _ _
end
end Go.Abs
