/- Part 17 of the proof: AbsD1. -/
import Derived.Test.YtjgboohpholnbaaGreatDoorTpcomZ16
import Derived.Sort.Grow
import Derived.Deep.Draws
namespace Go.Abs
open Go Go.Sort
theorem heap_grow {w w' : World} (h1 : w'.os = w.os) (h2 : w'.tape = w.tape) (h3 : w'.output = w.output) (hs : w.heap.size ≤ w'.heap.size) (hb : ∀ k, k < w.heap.size → w'.heap[k]? = w.heap[k]?) (hd : w.drawn ≤ w'.drawn) :
  ∃ q os, w' = Go.Sort.grow (w.drewN q) os := by
 refine ⟨w'.drawn - w.drawn, w'.heap.extract w.heap.size w'.heap.size, ?_⟩
 obtain ⟨hp, tp, dr, os, out⟩ := w'
 obtain ⟨hp0, tp0, dr0, os0, out0⟩ := w
 simp only at h1 h2 h3 hs hb hd
 subst h1 h2 h3
 unfold Go.Sort.grow World.drewN
 have e1 : dr0 + (dr - dr0) = dr := by omega
 have e2 : hp = hp0 ++ hp.extract hp0.size hp.size := by
  apply Array.ext_getElem?
  intro i
  by_cases hi : i < hp0.size
  ·rw [hb i hi, Array.getElem?_append_left hi]
  ·rw [Array.getElem?_append_right (by omega), Array.getElem?_extract]
   by_cases hj : i < hp.size
   ·rw [if_pos (by omega)]
    congr 1
    omega
   ·rw [if_neg (by omega), Array.getElem?_eq_none (by omega)]
 simp only
 rw [e1, ← e2]
theorem calls_grow {P : Program} {f : FuncId} {args : List V} {vals : Array Value} {k : IntKind} {r : Int} (h : Spec1 P f [] [] [] args (.int k r) []) (w : World) (hl : vals.size = args.length)
  (ha : ∀ i, i < args.length → Rel (fun _ => False) w noGh (args.getD i .any) (vals.getD i undef)) :
  Calls P f vals w fun e w' => e = .returned (.int k r) ∧ ∃ q os, w' = Go.Sort.grow (w.drewN q) os := by
 have h0 := h ⟨w, fun _ => False, fun _ => False, noGh, none⟩ vals ⟨.refl _ _, fun _ h => h, fun _ h => h.elim, fun r b v hb => by simp [Heap.get] at hb, fun r b hb => by simp [Heap.get] at hb, fun r r' b b' v v' hb => by simp [Heap.get] at hb⟩ hl ha (fun p hp => by simp at hp)
 refine (calls_drawn h0 (fun e w' hx => by obtain ⟨x, _, _, _, _, he, _⟩ := hx; exact ⟨x, he⟩)).mono ?_
 rintro e w' ⟨⟨x, r', h1, St', g', rfl, ⟨rfl, rfl⟩, hW, hR, _⟩, hd⟩
 cases hR
 exact ⟨rfl, heap_grow hW.frm.os hW.frm.tape hW.frm.output hW.frm.size (fun k hk => hW.frm.block k hk id) hd⟩
end Go.Abs
