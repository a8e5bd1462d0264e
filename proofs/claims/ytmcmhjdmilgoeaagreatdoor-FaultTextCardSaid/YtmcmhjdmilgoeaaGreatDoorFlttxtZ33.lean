/- Part 33 of the proof: Open2, Open3, Open4. -/
import Derived.Test.YtmcmhjdmilgoeaaGreatDoorFlttxtZ32
import Derived.Deep.SlicePairs
import Derived.Lib.LaidTab
namespace Go.Abs
open Go Go.RowKit Go.ChangeShapes Go.WideShapes Go.ChangeAt Go.Deep
def encP (x : BitVec 16 × BitVec 16) : List V := [.b16 x.1, .b16 x.2]
theorem rel_pairs {W : World} {b o cap : Nat} {l : List (BitVec 16 × BitVec 16)} (hcap : l.length ≤ cap) (hm : cap ≤ maxLen)
    (hc : ∀ j, j < l.length → W.cell? ⟨b, o + j * 2, none⟩ = some (.int .u16 ((l.getD j default).1.toNat : Int)) ∧ W.cell? ⟨b, o + (j * 2 + 1), none⟩ = some (.int .u16 ((l.getD j default).2.toNat : Int))) :
    Rel (allSt W) W noGh (.arr 2 l.length (encF encP default l)) (.slice (some ⟨b, o, none⟩) l.length cap) := by
  refine .arr _ 2 _ _ b o cap (fun i j => if j = 0 then .int .u16 ((l.getD i default).1.toNat : Int) else .int .u16 ((l.getD i default).2.toNat : Int)) hcap (Nat.le_trans hcap hm) (fun hn _ => block_of_cell (hc 0 hn).1) (fun i j hi hj => ?_) (fun i j _ _ => ?_) (fun i j hi hj => ?_)
  · match j, hj with
    | 0, _ => simpa using (hc i hi).1
    | 1, _ => simpa [Nat.add_assoc] using (hc i hi).2
  · match j with
    | 0 => rfl
    | j + 1 => rfl
  · match j, hj with
    | 0, _ => exact .b16 _ _
    | 1, _ => exact .b16 _ _
section
variable {H : Type} {enc : TypeId × Value → H} {P : Program} {W : World} {t e : TypeId} {base : Nat} {v : Value} {d : DataW H} {ps : List MemPlace}
theorem open_pairs {f0 f1 : Field} (ht : P.underlying t = some (.slice e)) (he : P.underlying e = some (.struct #[f0, f1])) (ce : P.cellsOf e = 2) (o0 : f0.offset = 0) (o1 : f1.offset = 1) (c0 : P.cellsOf f0.type = 1) (c1 : P.cellsOf f1.type = 1)
    (t0 : P.underlying f0.type = some (.int .u16)) (t1 : P.underlying f1.type = some (.int .u16))
    (hval : Value.okWide P W .any base t v) (h : DataW.Trod enc P W 0 (fun _ => true) true t v d ps) :
    ∃ l : List (BitVec 16 × BitVec 16), Rel (allSt W) W noGh (.arr 2 l.length (encF encP default l)) v := by
  obtain ⟨fuel, hf⟩ := h
  obtain ⟨a0, len0, cap0, rfl⟩ := okWide_slice ht hval
  simp only [Value.cells] at hf
  rcases open_slice_pairs ht he ce o0 o1 c0 c1 hf with ⟨h1, h2⟩ | ⟨a, len, cap, m, n, V0, V1, D0, D1, P0, P1, h1, hb, hlc, hm, hz, hx, hcell⟩
  · simp only [List.cons.injEq, Value.slice.injEq, and_true] at h1
    obtain ⟨rfl, rfl, rfl⟩ := h1
    exact ⟨[], .arr0 _ _ _⟩
  · simp only [List.cons.injEq, Value.slice.injEq, and_true] at h1
    obtain ⟨rfl, rfl, rfl⟩ := h1
    simp only [if_true] at hz
    subst hz
    have hsp : a.spot = none := by
      unfold Value.okWide at hval
      rw [ht] at hval
      simp only [Cell.okWide, ht, Cell.ok] at hval
      exact hval.2.2.2.1
    obtain ⟨ab, ao, aas⟩ := a
    simp only at hsp
    subst hsp
    have each : ∀ i, ∃ q : BitVec 16 × BitVec 16, i < len0 → W.cell? ⟨ab, ao + i * 2, none⟩ = some (.int .u16 (q.1.toNat : Int)) ∧ W.cell? ⟨ab, ao + (i * 2 + 1), none⟩ = some (.int .u16 (q.2.toNat : Int)) := by
      intro i
      by_cases hi : i < len0
      · obtain ⟨g1, g2, g3, g4⟩ := hcell i (by omega)
        obtain ⟨n0, e0, _, w0⟩ := DataW.trod_int t0 g3
        obtain ⟨n1, e1, _, w1⟩ := DataW.trod_int t1 g4
        simp only [List.cons.injEq, and_true] at e0 e1
        rw [e0, add_plain] at g1
        rw [e1, add_plain] at g2
        refine ⟨(BitVec.ofInt 16 n0, BitVec.ofInt 16 n1), fun _ => ?_⟩
        rw [g1, g2, ofInt_u16 w0, ofInt_u16 w1]
        exact ⟨rfl, rfl⟩
      · exact ⟨default, fun h => absurd h hi⟩
    have hlen : ((List.range len0).map fun i => Classical.choose (each i)).length = len0 := by simp
    refine ⟨(List.range len0).map fun i => Classical.choose (each i), ?_⟩
    have := rel_pairs (W := W) (b := ab) (o := ao) (cap := m) (l := (List.range len0).map fun i => Classical.choose (each i)) (by omega) hm (fun j hj => by
      have hj' : j < len0 := by omega
      have e1 : ((List.range len0).map fun i => Classical.choose (each i)).getD j default = Classical.choose (each j) := by
        simp [List.getD_eq_getElem?_getD, hj']
      rw [e1]
      exact Classical.choose_spec (each j) hj')
    rw [hlen] at this
    rw [hlen]
    exact this
end
end Go.Abs
namespace Go.Abs
open Go Go.RowKit Go.ChangeShapes Go.WideShapes Go.ChangeAt Go.Deep
theorem rel_tab {P : Program} {W : World} {name : String} {k : IntKind} {zs : List Int} {g : Nat} (h : Lib.TabIs P W name k zs) (hg : P.globalNamed name = some g) : Rel (allSt W) W noGh (.tab k zs) (.pointer (some ⟨g, 0, none⟩)) := by
  unfold Lib.TabIs World.var? at h
  rw [hg] at h
  simp only [Option.bind_some] at h
  split at h
  · rename_i cs t fr hb
    cases h
    refine .tab _ _ _ _ _ _ ?_ hb
    unfold allSt
    exact (Array.getElem?_eq_some_iff.1 hb).1
  · cases h
section
variable {H : Type} {enc : TypeId × Value → H} {P : Program} {W : World} {t e : TypeId} {base : Nat} {v : Value} {d : DataW H} {ps : List MemPlace}
end
end Go.Abs
namespace Go.Abs
open Go Go.RowKit Go.ChangeShapes Go.WideShapes Go.ChangeAt Go.Deep
section
variable {P : Program} {W : World} {t e : TypeId} {base : Nat} {v : Value}
end
end Go.Abs
