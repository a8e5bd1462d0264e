/- Part 18 of the proof: FldA. -/
import Derived.Test.YtmcmhjdmilgoeaaGreatDoorFlttxtZ17
import Derived.Laws.RangeString
namespace Go.Abs
open Go Go.Lib
def fldL (p : Nat → Bool) : List UInt8 → Option (List UInt8) → List (List UInt8)
  | [], none => []
  | [], some c => [c]
  | b :: t, none => if p b.toNat = true then fldL p t none else fldL p t (some [b])
  | b :: t, some c => if p b.toNat = true then c :: fldL p t none else fldL p t (some (c ++ [b]))
def exL (x : List UInt8) (a b : Nat) : List UInt8 := (x.drop a).take (b - a)
theorem exL_snoc (x : List UInt8) (a b : Nat) (h : a ≤ b) (hb : b < x.length) : exL x a (b + 1) = exL x a b ++ [x[b]] := by
  unfold exL
  rw [show b + 1 - a = (b - a) + 1 from by omega, List.take_add_one]
  congr 1
  rw [List.getElem?_drop, show a + (b - a) = b from by omega, List.getElem?_eq_getElem hb]
  rfl
theorem extract_toList (x : List UInt8) (a b : Nat) : ((⟨x.toArray⟩ : ByteArray).extract a b).data.toList = exL x a b := by
  rw [ByteArray.data_extract]
  simp [exL, List.extract_eq_take_drop]
theorem spans_ascii (p : Nat → Bool) (x : List UInt8) (h : ∀ b, b ∈ x → b.toNat < 128) : ∀ (f pos : Nat) (st : Option Nat) (acc : List (Nat × Nat)), x.length ≤ pos + f → pos ≤ x.length → (∀ a, st = some a → a ≤ pos) →
    (closeSpans ⟨x.toArray⟩ (spansFromP p ⟨x.toArray⟩ f pos st acc)).map (fun q => exL x q.1 q.2) = acc.map (fun q => exL x q.1 q.2) ++ fldL p (x.drop pos) (st.map fun a => exL x a pos) := by
  have hsz : (⟨x.toArray⟩ : ByteArray).size = x.length := by simp [ByteArray.size]
  have hend : ∀ (f pos : Nat) (st : Option Nat) (acc : List (Nat × Nat)), pos = x.length → (closeSpans ⟨x.toArray⟩ (spansFromP p ⟨x.toArray⟩ f pos st acc)).map (fun q => exL x q.1 q.2) = acc.map (fun q => exL x q.1 q.2) ++ fldL p (x.drop pos) (st.map fun a => exL x a pos) := by
    intro f pos st acc hp
    rw [spansFromP_end p _ f pos st acc (by rw [hsz]; omega), List.drop_eq_nil_of_le (by omega)]
    cases st with
    | none => simp [closeSpans, fldL]
    | some a => simp [closeSpans, fldL, hsz, hp]
  intro f
  induction f with
  | zero => intro pos st acc h1 h2 _; exact hend 0 pos st acc (by omega)
  | succ f ih =>
    intro pos st acc h1 h2 h3
    rcases Nat.lt_or_ge pos x.length with hlt | hge
    · have hd := decode_ascii ⟨x.toArray⟩ pos (by rw [hsz]; exact hlt) (h _ (by
        show x.toArray[pos] ∈ x
        simp))
      have hx : ((⟨x.toArray⟩ : ByteArray)[pos]'(by rw [hsz]; exact hlt)) = x[pos] := by
        show x.toArray[pos] = x[pos]
        simp
      rw [hx] at hd
      have hdrop : x.drop pos = x[pos] :: x.drop (pos + 1) := List.drop_eq_getElem_cons hlt
      rw [hdrop]
      unfold spansFromP
      rw [if_pos (by rw [hsz]; exact hlt), hd]
      dsimp only
      cases st with
      | none =>
        rw [Option.map_none, fldL]
        by_cases hp : p x[pos].toNat = true
        · rw [if_pos hp, if_pos hp, ih (pos + 1) none acc (by omega) (by omega) (by simp)]; rfl
        · rw [if_neg hp, if_neg hp, ih (pos + 1) (some pos) acc (by omega) (by omega) (by simp)]
          have := exL_snoc x pos pos (Nat.le_refl _) hlt
          rw [Option.map_some, this]
          simp [exL]
      | some a =>
        have ha := h3 a rfl
        rw [Option.map_some, fldL]
        by_cases hp : p x[pos].toNat = true
        · rw [if_pos hp, if_pos hp, ih (pos + 1) none (acc ++ [(a, pos)]) (by omega) (by omega) (by simp)]
          simp
        · rw [if_neg hp, if_neg hp, ih (pos + 1) (some a) acc (by omega) (by omega) (by intro b hb; cases hb; omega)]
          rw [Option.map_some, exL_snoc x a pos ha hlt]
    · exact hend (f + 1) pos st acc (by omega)
theorem fields_ascii (p : Nat → Bool) (x : List UInt8) (h : ∀ b, b ∈ x → b.toNat < 128) : (goFieldsP p ⟨x.toArray⟩).map (·.data.toList) = fldL p x none := by
  have hs := spans_ascii p x h x.length 0 none [] (by omega) (Nat.zero_le _) (by simp)
  rw [List.drop_zero] at hs
  unfold goFieldsP spansOfP
  rw [List.map_map]
  have hsz : (⟨x.toArray⟩ : ByteArray).size = x.length := by simp [ByteArray.size]
  rw [hsz]
  refine Eq.trans ?_ hs
  refine List.map_congr_left fun q _ => ?_
  exact extract_toList x q.1 q.2
end Go.Abs
