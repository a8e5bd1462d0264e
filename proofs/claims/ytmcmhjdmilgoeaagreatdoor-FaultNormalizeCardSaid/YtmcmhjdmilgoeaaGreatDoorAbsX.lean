/- Functions of Go's library by contract. -/
import Derived.Test.YtmcmhjdmilgoeaaGreatDoorAbsW
import Derived.Below
import Derived.Lib.Join
namespace Go.Abs
open Go Go.RowKit

theorem WSim.below {z : Start} (hW : WSim z z.St z.g [] z.w) {w' : World} (h : Below z.w.heap.size z.w w') : WSim z z.St z.g [] w' :=
  ⟨⟨h.os, h.tape, h.output, h.size, fun k hk _ => h.block k hk⟩, fun _ h => h, fun k hk => ⟨Nat.lt_of_lt_of_le (hW.st1 k hk).1 h.size, .inl hk⟩, fun r b v hb => by simp [Heap.get] at hb, fun r b hb => by simp [Heap.get] at hb, fun r r' b b' v v' hb => by simp [Heap.get] at hb⟩

theorem str_of {s : ByteArray} {l : List UInt8} (h : s.data.toList = l) : s = ⟨l.toArray⟩ := by
  subst h; cases s; simp

def joinP (l : List (List UInt8)) (sep : List UInt8) : Option (List UInt8) :=
  if (Lib.join l sep).length ≤ 140737488355328 ∧ l.length ≤ 140737488355328 then some (Lib.join l sep) else none

theorem join_spec {P : Program} {f : FuncId} (h0 : ∀ (a : Option Addr) (c : Nat) (sep : ByteArray) (w : World), Calls P f #[.slice a 0 c, .string sep] w fun e w' => e = .returned (.string ⟨#[]⟩) ∧ w' = w)
    (h1 : ∀ (bk o c : Nat) (xs : List ByteArray) (sep : ByteArray) (w : World), (∀ (j : Nat) x, xs[j]? = some x → w.cell? ⟨bk, o + j, none⟩ = some (.string x)) → bk < w.heap.size → xs.length ≤ 140737488355328 → xs.length ≤ c →
      (Lib.join (xs.map (·.data.toList)) sep.data.toList).length ≤ 140737488355328 → Calls P f #[.slice (some ⟨bk, o, none⟩) xs.length c, .string sep] w fun e w' => e = .returned (.string ⟨(Lib.join (xs.map (·.data.toList)) sep.data.toList).toArray⟩) ∧ Below w.heap.size w w')
    (l : List (List UInt8)) (sep r : List UInt8) (h : joinP l sep = some r) : Spec1 P f [] [] [] [.arr 1 l.length (encF (fun x => [.str x]) [] l), .str sep] (.str r) [] := by
  unfold joinP at h
  split at h
  case isFalse => cases h
  rename_i hc
  cases h
  intro z vals hW hl hr _
  have e0 := hr 0 (by simp)
  have e1 := hr 1 (by simp)
  simp only [List.getD_cons_zero, List.getD_cons_succ] at e0 e1
  obtain ⟨s, hs1, hs2⟩ := e1.str_inv
  have hv : vals = #[vals.getD 0 undef, vals.getD 1 undef] := by
    apply Array.ext
    · simpa using hl
    · intro i h1 h2
      have : i = 0 ∨ i = 1 := by simp at h2; omega
      rcases this with rfl | rfl <;> simp [h1]
  rw [hv, hs1]
  generalize vals.getD 0 undef = u at e0
  have nilcase : l.length = 0 → ∀ a c, u = .slice a 0 c → Calls P f #[u, .string s] z.w (fun e w' => ∃ x r h1 St' g', e = .returned x ∧ (r = .str (Lib.join l sep) ∧ h1 = ([] : Heap)) ∧ WSim z St' g' h1 w' ∧ Rel St' w' g' r x ∧ (∀ k, k ∈ ([] : List Nat) → g' k = z.g k)) := by
    intro hn a c hu
    subst hu
    refine (h0 a c s z.w).mono ?_
    rintro e w' ⟨rfl, rfl⟩
    refine ⟨_, _, _, z.St, z.g, rfl, ⟨rfl, rfl⟩, hW, .str _ _ _ ?_, by simp⟩
    rw [List.length_eq_zero_iff.1 hn]
    rfl
  generalize hn : l.length = n at e0
  cases e0 with
  | arr0 => exact nilcase hn _ _ rfl
  | arr _ _ _ _ b o cap x hcap hmax hS hcl h1c hrr =>
    by_cases hn0 : n = 0
    · subst hn0; exact nilcase hn _ _ rfl
    have hb : z.St b := hS (by omega) (by decide)
    have hlen : (l.map (fun (q : List UInt8) => (⟨q.toArray⟩ : ByteArray))).length = n := by simpa using hn
    have hmap : (l.map (fun (q : List UInt8) => (⟨q.toArray⟩ : ByteArray))).map (fun (s : ByteArray) => s.data.toList) = l := by simp [Function.comp_def]
    have := h1 b o cap (l.map fun q => ⟨q.toArray⟩) s z.w (fun j y hj => ?_) (hW.st1 b hb).1 (by rw [hlen]; omega) (by rw [hlen]; exact hcap) (by rw [hmap, hs2]; exact hc.1)
    · rw [hlen, hmap, hs2] at this
      refine this.mono ?_
      rintro e w' ⟨rfl, hbl⟩
      exact ⟨_, _, _, z.St, z.g, rfl, ⟨rfl, rfl⟩, hW.below hbl, .str _ _ _ (by simp), by simp⟩
    · have hjn : j < n := by have := (List.getElem?_eq_some_iff.1 hj).1; omega
      have h5 := hcl j 0 hjn (by decide)
      have h6 := hrr j 0 hjn (by decide)
      simp only [encF, List.getD_cons_zero] at h6
      obtain ⟨s2, hs3, hs4⟩ := h6.str_inv
      rw [hs3, str_of hs4] at h5
      simp only [Nat.mul_one, Nat.add_zero] at h5
      rw [h5]
      rw [List.getElem?_map] at hj
      obtain ⟨q, hq, rfl⟩ := Option.map_eq_some_iff.1 hj
      simp [List.getD_eq_getElem?_getD, hq]

end Go.Abs
