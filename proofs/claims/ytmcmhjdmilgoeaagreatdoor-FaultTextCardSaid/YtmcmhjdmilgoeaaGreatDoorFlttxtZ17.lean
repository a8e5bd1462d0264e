/- Part 17 of the proof: FldW. -/
import Derived.Test.YtmcmhjdmilgoeaaGreatDoorFlttxtZ16
import Derived.Shelf.Strings.FieldsFuncGrows
namespace Go.Abs
open Go Go.RowKit Go.Lib Go.Shelf Go.Proofs
def fieldsO (p : Nat → Bool) (x : List UInt8) : Option (List (List UInt8)) := if x.length ≤ 1000000 then some ((Lib.goFieldsP p ⟨x.toArray⟩).map (·.data.toList)) else none
/-- a function of a character that answers yes or no, out of its contract -/
theorem calls_pred {P : Program} {g : FuncId} {p : Nat → Bool} (hp : ∀ x : Nat, x ≤ 1114111 → Spec1 P g [] [] [] [.int .i32 (x : Int)] (.bool (p x)) []) (w : World) : PredGrows P g #[] p w := by
  intro W x hx _
  have h0 := hp x hx ⟨W, fun _ => False, fun _ => False, noGh, none⟩ #[.int .i32 (x : Int)] ⟨.refl _ _, fun _ h => h, fun _ h => h.elim, fun r b v hb => by simp [Heap.get] at hb, fun r b hb => by simp [Heap.get] at hb, fun r r' b b' v v' hb => by simp [Heap.get] at hb⟩ rfl (fun i hi => match i, hi with | 0, _ => .int _ _ _) (fun p hp => by simp at hp)
  refine h0.mono ?_
  rintro e w' ⟨v, r', h1, St', g', rfl, ⟨rfl, rfl⟩, hW, hR, _⟩
  cases hR
  exact ⟨rfl, hW.frm.os, hW.frm.tape, hW.frm.output, hW.frm.size, fun k hk => hW.frm.block k hk id⟩
theorem pieces_le (p : Nat → Bool) (s : ByteArray) : ∀ (f pos : Nat) (st : Option Nat) (acc : List (Nat × Nat)), (spansFromP p s f pos st acc).1.length ≤ acc.length + f
  | 0, _, _, _ => Nat.le_refl _
  | f + 1, pos, st, acc => by
    unfold spansFromP
    split
    · split <;> split
      · have := pieces_le p s f (pos + (Utf8.decode s pos).2) none (acc ++ [(‹Nat›, pos)])
        simp at this; omega
      · have := pieces_le p s f (pos + (Utf8.decode s pos).2) none acc
        omega
      · have := pieces_le p s f (pos + (Utf8.decode s pos).2) (some ‹Nat›) acc
        omega
      · have := pieces_le p s f (pos + (Utf8.decode s pos).2) (some pos) acc
        omega
    · simp
theorem fields_len (p : Nat → Bool) (s : ByteArray) : (goFieldsP p s).length ≤ s.size + 1 := by
  unfold goFieldsP spansOfP
  rw [List.length_map]
  have := pieces_le p s s.size 0 none []
  generalize spansFromP p s s.size 0 none [] = q at this ⊢
  obtain ⟨acc, st⟩ := q
  cases st with
  | none => unfold closeSpans; simp at this ⊢; omega
  | some a => unfold closeSpans; simp at this ⊢; omega
theorem fields_spec {P : Program} {f g : FuncId} (E : TypeId) (p : Nat → Bool)
    (h : ∀ (s : ByteArray) (w : World), s.size ≤ 4294967296 → PredGrows P g #[] p w → Calls P f #[.string s, .func (.func g) #[] #[]] w fun e w' => ∃ A, e = .returned (.slice (some ⟨A, 0, none⟩) (goFieldsP p s).length (goFieldsP p s).length) ∧ w.heap.size ≤ A ∧
      w'.ownsRow w.heap.size E 1 (.slice (some ⟨A, 0, none⟩) (goFieldsP p s).length (goFieldsP p s).length) (goFieldsP p s).length ((goFieldsP p s).map Value.string) ∧ Below w.heap.size w w')
    (hp : ∀ x : Nat, x ≤ 1114111 → Spec1 P g [] [] [] [.int .i32 (x : Int)] (.bool (p x)) [])
    (x1 : List UInt8) (r : List (List UInt8)) (hr : fieldsO p x1 = some r) : Spec1 P f [] [] [] [.str x1, .fn (.func g) []] (.own 3000) [(3000, bL E 1 (fun x : List UInt8 => [.str x]) [] r)] := by
  unfold fieldsO at hr
  split at hr
  case isFalse => cases hr
  rename_i hlt
  cases hr
  intro z vals hW hl hv _
  have e0 := hv 0 (by simp)
  have e1 := hv 1 (by simp)
  simp only [List.getD_cons_zero, List.getD_cons_succ] at e0 e1
  obtain ⟨s, hs1, hs2⟩ := e0.str_inv
  have hv : vals = #[vals.getD 0 undef, vals.getD 1 undef] := by
    apply Array.ext
    · simpa using hl
    · intro i h1 h2
      have : i = 0 ∨ i = 1 := by simp at h2; omega
      rcases this with rfl | rfl <;> simp [h1]
  rw [hv, hs1]
  generalize vals.getD 1 undef = u1 at e1
  cases e1 with
  | fn _ _ _ vs hvs _ =>
  obtain rfl : vs = #[] := Array.size_eq_zero_iff.1 hvs
  have hsz : s.size = x1.length := by rw [← hs2]; simp
  have hse : (⟨x1.toArray⟩ : ByteArray) = s := str_of hs2 ▸ rfl
  rw [hse]
  refine (h s z.w (by rw [hsz]; omega) (calls_pred hp z.w)).mono ?_
  rintro e w' ⟨A, rfl, hA, hown, hbl⟩
  have hlen := fields_len p s
  generalize goFieldsP p s = ps at hown hlen ⊢
  obtain ⟨hx, hcase⟩ := hown
  rcases hcase with ⟨hc, _⟩ | ⟨b, cap, cur, hc, hb0, hb, hnc, hcm, hcs, htk⟩
  · cases hc
  · cases hc
    have hbs : A < w'.heap.size := (Array.getElem?_eq_some_iff.1 hb).1
    refine ⟨_, _, _, z.St, z.g.set 3000 (.slice (some ⟨A, 0, none⟩) ps.length ps.length), rfl, ⟨rfl, rfl⟩, ?_, .own _ _ _ (by simp [Gh.set]) rfl, fun k hk => by cases hk⟩
    refine hW.change (ro := none) (fun k hk => by cases hk) hbl.os hbl.tape hbl.output hbl.size (fun k hk _ => hbl.block k hk) (.inl rfl) (fun k hk => by cases hk; exact .inr ⟨hA, hbs⟩) ?_
    refine ⟨ps.map Value.string, ⟨by simp, .inr ⟨A, ps.length, cur, by simp, Nat.zero_le _, hb, by simp, hcm, by simpa using hcs, by simpa using htk⟩⟩, fun i j hi hj => ?_, fun x hx => ?_⟩
    · obtain rfl : j = 0 := by omega
      rw [List.length_map] at hi
      have e1 : (ps.map (·.data.toList)).getD i [] = ps[i].data.toList := by simp [List.getD_eq_getElem?_getD, hi]
      have e2 : (ps.map Value.string).getD (i * 1 + 0) undef = .string ps[i] := by simp [List.getD_eq_getElem?_getD, hi]
      simp only [encF, List.getD_cons_zero]
      rw [e1, e2]
      exact .str _ _ _ rfl
    · obtain ⟨q, _, rfl⟩ := List.mem_map.1 hx
      rfl
end Go.Abs
