/- A row's arguments, opened by their types. -/
import Derived.Test.YtmcmhjdmilgoeaaGreatDoorAbsZ
namespace Go.Abs
open Go Go.RowKit Go.ChangeShapes Go.WideShapes Go.ChangeAt
section
variable {H : Type} {enc : TypeId × Value → H} {P : Program} {W : World} {t e : TypeId} {base : Nat} {v : Value} {d : DataW H} {ps : List MemPlace}
theorem open_int {k : IntKind} (ht : P.underlying t = some (.int k)) (hval : Value.okWide P W .any base t v) : ∃ n, v = .int k n ∧ k.has n := by
  unfold Value.okWide at hval
  rw [ht] at hval
  simp only [Cell.okWide, ht, Cell.ok] at hval
  cases v <;> simp at hval
  exact ⟨_, by rw [hval.1], hval.2⟩
theorem open_word (ht : P.underlying t = some (.int .u16)) (hval : Value.okWide P W .any base t v) : ∃ x : BitVec 16, v = .int .u16 (x.toNat : Int) := by
  obtain ⟨n, rfl, h⟩ := open_int ht hval
  have h1 : 0 ≤ n ∧ n ≤ 65535 := by
    have h2 : IntKind.u16.min ≤ n ∧ n ≤ IntKind.u16.max := h
    simp [IntKind.min, IntKind.max, IntKind.signed, IntKind.bits] at h2
    omega
  refine ⟨BitVec.ofInt 16 n, ?_⟩
  congr 1
  rw [BitVec.toNat_ofInt]
  omega
theorem open_i64 (ht : P.underlying t = some (.int .i64)) (hval : Value.okWide P W .any base t v) : ∃ n : Int, v = .int .i64 n ∧ -9223372036854775808 ≤ n ∧ n ≤ 9223372036854775807 := by
  obtain ⟨n, rfl, h⟩ := open_int ht hval
  have h2 : IntKind.i64.min ≤ n ∧ n ≤ IntKind.i64.max := h
  simp [IntKind.min, IntKind.max, IntKind.signed, IntKind.bits] at h2
  exact ⟨n, rfl, by omega, by omega⟩
theorem open_u8 (ht : P.underlying t = some (.int .u8)) (hval : Value.okWide P W .any base t v) : ∃ n : Int, v = .int .u8 n ∧ 0 ≤ n ∧ n ≤ 255 := by
  obtain ⟨n, rfl, h⟩ := open_int ht hval
  have h2 : IntKind.u8.min ≤ n ∧ n ≤ IntKind.u8.max := h
  simp [IntKind.min, IntKind.max, IntKind.signed, IntKind.bits] at h2
  exact ⟨n, rfl, by omega, by omega⟩
theorem open_str (ht : P.underlying t = some .string) (hval : Value.okWide P W .any base t v) : ∃ s : ByteArray, v = .string s ∧ s.size ≤ 9223372036854775807 := by
  unfold Value.okWide at hval
  rw [ht] at hval
  simp only [Cell.okWide, ht, Cell.ok] at hval
  cases v <;> simp at hval
  refine ⟨_, rfl, ?_⟩
  have h2 : IntKind.i64.max = 9223372036854775807 := by decide
  omega
/-- A struct of a byte and a slice of 16-bit words. -/
theorem open_draft {f0 f1 : Field} {tb ts : TypeId} (ht : P.underlying t = some (.struct #[f0, f1])) (h0 : f0.offset = 0 ∧ f0.type = tb) (h1 : f1.offset = 1 ∧ f1.type = ts) (hc : P.cellsOf t = 2) (hct : P.cellTypes P.depth t = some [tb, ts])
    (htb : P.underlying tb = some (.int .u8)) (hts : P.underlying ts = some (.slice e)) (he : P.underlying e = some (.int .u16)) (hce : P.cellsOf e = 1) (hcs : P.cellsOf ts = 1)
    (hval : Value.okWide P W .any base t v) (h : DataW.Trod enc P W 0 (fun _ => true) true t v d ps) :
    ∃ (n : Int) (l : List (BitVec 16)), 0 ≤ n ∧ n ≤ 255 ∧ Rel (allSt W) W noGh (.agg [.int .u8 n, .arr 1 l.length (encF (fun x => [.b16 x]) 0#16 l)]) v := by
  unfold Value.okWide at hval
  rw [ht] at hval
  obtain ⟨cs, rfl, hsz, ts', hts', _, hcell⟩ := hval
  rw [hct] at hts'
  cases hts'
  rw [hc] at hsz
  obtain ⟨fuel, hf⟩ := h
  obtain ⟨xs, n, rfl, hx, hlen, hxl, hfld⟩ := DataW.trod_struct ht hf
  have hv0 : cs[0]? = some (cs.getD 0 undef) := by simp [hsz]
  have hv1 : cs[1]? = some (cs.getD 1 undef) := by simp [hsz]
  obtain ⟨u0, hu0, hk0⟩ := hcell 0 _ hv0
  obtain ⟨u1, hu1, hk1⟩ := hcell 1 _ hv1
  simp at hu0 hu1
  subst hu0 hu1
  have hw0 : Value.okWide P W .any base tb (cs.getD 0 undef) := by unfold Value.okWide; rw [htb]; exact hk0
  have hw1 : Value.okWide P W .any base ts (cs.getD 1 undef) := by unfold Value.okWide; rw [hts]; exact hk1
  obtain ⟨m, hm, hm0, hm1⟩ := open_u8 htb hw0
  obtain ⟨a0, len0, cap0, hs1⟩ := okWide_slice hts hw1
  have hf1 := hfld 1 f1 rfl
  rw [h1.1, h1.2, hcs] at hf1
  have hcsl : cs.toList = [cs.getD 0 undef, cs.getD 1 undef] := by
    apply List.ext_getElem?
    intro i
    match i with
    | 0 => rw [Array.getElem?_toList]; exact hv0
    | 1 => rw [Array.getElem?_toList]; exact hv1
    | i + 2 => rw [Array.getElem?_toList, Array.getElem?_eq_none (by omega)]; rfl
  have hcl : (Value.agg cs).cells.toList = cs.toList := rfl
  rw [hcl, hcsl] at hf1
  simp only [List.drop_succ_cons, List.drop_zero, List.take_succ_cons, List.take_zero] at hf1
  have hx1 : 1 < xs.length := by rw [hxl]; exact Nat.lt_succ_self 1
  rw [List.getElem?_eq_getElem hx1] at hf1
  have hT : DataW.Trod enc P W 0 (fun _ => true) true ts (cs.getD 1 undef) xs[1].1 xs[1].2 := by
    refine ⟨n, ?_⟩
    rw [hs1] at hf1 ⊢
    exact hf1
  obtain ⟨l, hrel, _⟩ := open_words hts he hce hw1 hT
  refine ⟨m, l, hm0, hm1, .agg _ _ _ (by simp [hsz]) fun i hi => ?_⟩
  have hi' : i < 2 := hi
  match i, hi' with
  | 0, _ =>
    show Rel _ _ _ (.int .u8 m) (cs.getD 0 undef)
    rw [hm]; exact .int _ _ _
  | 1, _ => exact hrel
end
end Go.Abs
