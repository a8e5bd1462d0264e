/- A row's arguments, opened by their types. -/
import Derived.Test.YtncjecbhohcfoaaDoorAbsZ
namespace Go.Abs
open Go Go.RowKit Go.ChangeShapes Go.WideShapes Go.ChangeAt
section
variable {H : Type} {enc : TypeId × Value → H} {P : Program} {W : World} {t e : TypeId} {base : Nat} {v : Value} {d : DataW H} {ps : List MemPlace}
theorem open_int {k : IntKind} (ht : P.underlying t = some (.int k)) (hval : Value.okWide P W .any base t v) : ∃ n, v = .int k n ∧ k.has n := by
  unfold Value.okWide at hval
  rw [ht] at hval
  simp only [Cell.okWide, ht, Cell.ok] at hval
  cases v <;> simp at hval
  exact ⟨_, by rw [hval.1], hval.2⟩
theorem open_word (ht : P.underlying t = some (.int .u16)) (hval : Value.okWide P W .any base t v) : ∃ x : BitVec 16, v = .int .u16 (x.toNat : Int) := by
  obtain ⟨n, rfl, h⟩ := open_int ht hval
  have h1 : 0 ≤ n ∧ n ≤ 65535 := by
    have h2 : IntKind.u16.min ≤ n ∧ n ≤ IntKind.u16.max := h
    simp [IntKind.min, IntKind.max, IntKind.signed, IntKind.bits] at h2
    omega
  refine ⟨BitVec.ofInt 16 n, ?_⟩
  congr 1
  rw [BitVec.toNat_ofInt]
  omega
theorem open_i64 (ht : P.underlying t = some (.int .i64)) (hval : Value.okWide P W .any base t v) : ∃ n : Int, v = .int .i64 n ∧ -9223372036854775808 ≤ n ∧ n ≤ 9223372036854775807 := by
  obtain ⟨n, rfl, h⟩ := open_int ht hval
  have h2 : IntKind.i64.min ≤ n ∧ n ≤ IntKind.i64.max := h
  simp [IntKind.min, IntKind.max, IntKind.signed, IntKind.bits] at h2
  exact ⟨n, rfl, by omega, by omega⟩
theorem open_u8 (ht : P.underlying t = some (.int .u8)) (hval : Value.okWide P W .any base t v) : ∃ n : Int, v = .int .u8 n ∧ 0 ≤ n ∧ n ≤ 255 := by
  obtain ⟨n, rfl, h⟩ := open_int ht hval
  have h2 : IntKind.u8.min ≤ n ∧ n ≤ IntKind.u8.max := h
  simp [IntKind.min, IntKind.max, IntKind.signed, IntKind.bits] at h2
  exact ⟨n, rfl, by omega, by omega⟩
theorem open_str (ht : P.underlying t = some .string) (hval : Value.okWide P W .any base t v) : ∃ s : ByteArray, v = .string s ∧ s.size ≤ 9223372036854775807 := by
  unfold Value.okWide at hval
  rw [ht] at hval
  simp only [Cell.okWide, ht, Cell.ok] at hval
  cases v <;> simp at hval
  refine ⟨_, rfl, ?_⟩
  have h2 : IntKind.i64.max = 9223372036854775807 := by decide
  omega
end
end Go.Abs
