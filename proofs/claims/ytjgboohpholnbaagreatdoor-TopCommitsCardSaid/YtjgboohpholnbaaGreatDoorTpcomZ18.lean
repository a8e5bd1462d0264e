/- Part 18 of the proof: Srt1. -/
import Derived.Test.YtjgboohpholnbaaGreatDoorTpcomZ17
import Derived.Shelf.GgSortFunc.Insertion
namespace Go.Abs
open Go Go.RowKit Go.Sort Go.Proofs
def sortO {α : Type} (ky : α → Nat) (l : List α) : Option (List α) := if l.length ≤ 140737488355328 then some (isortK ky l) else none
theorem sort_spec {P : Program} {f g : FuncId} {α : Type} [Inhabited α] (enc : α → Value) (ev : α → V) (t : TypeId) (dflt : α) (ky : α → Nat)
  (hz : ∀ (p : Option Addr) (cap : Nat) (fv : Value) (w : World), Calls P f #[.slice p 0 cap, fv] w fun e w' => e = .returned (.tuple #[]) ∧ w' = w)
  (hs : ∀ (blk off cap : Nat) (d : Array α) (w : World), Holds enc w blk off d → blk < w.heap.size → d.size < 4611686018427387904 →
   Calls P f #[.slice (some ⟨blk, off, none⟩) d.size cap, .func (.func g) #[] #[]] w fun e w' => e = .returned (.tuple #[]) ∧ ∃ n os, w' = sortWorld enc w blk off n (isortK ky d.toList).toArray os)
  (hre : ∀ (St : Nat → Prop) (w : World) (x : α), Rel St w noGh (ev x) (enc x)) (hri : ∀ (St : Nat → Prop) (w : World) (x : α) (v : Value), Rel St w noGh (ev x) v → v = enc x)
  (h1 : ∀ x, (enc x).oneCell' = true) (l r : List α) (h : sortO ky l = some r) :
  Spec1 P f [] [2000] [(2000, bL t 1 (fun x => [ev x]) dflt l)] [.own 2000, .fn (.func g) []] (.tup []) [(2000, bL t 1 (fun x => [ev x]) dflt r)] := by
 unfold sortO at h
 split at h
 case isFalse => cases h
 rename_i hll
 cases h
 intro z vals hW hl hr _
 have e0 := hr 0 (by simp)
 have e1 := hr 1 (by simp)
 simp only [List.getD_cons_zero, List.getD_cons_succ] at e0 e1
 have hv : vals = #[vals.getD 0 undef, vals.getD 1 undef] := by
  apply Array.ext
  ·simpa using hl
  ·intro i h1 h2
   have : i = 0 ∨ i = 1 := by simp at h2; omega
   rcases this with rfl | rfl <;> simp [h1]
 rw [hv]
 generalize vals.getD 0 undef = u at e0
 generalize vals.getD 1 undef = u1 at e1
 cases e1 with
 | fn _ _ _ vs hvs _ =>
 obtain rfl : vs = #[] := Array.size_eq_zero_iff.1 hvs
 cases e0 with
 | own _ _ _ hg ho =>
 obtain ⟨v, hgv, xs, hown, hrel, hone⟩ := hW.ok 2000 _ (by simp [Heap.get]; rfl)
 rw [hg] at hgv
 cases hgv
 obtain ⟨hxs, hcase⟩ := hown
 have htup : ∀ (St : Nat → Prop) (w : World) (g : Gh), Rel St w g (.tup []) (.tuple #[]) := fun St w g => .tup g [] #[] rfl (fun i hi => by simp at hi)
 rcases hcase with ⟨rfl, hn⟩ | ⟨b, cap, cur, rfl, hb0, hb, hnc, hcm, hcs, htk⟩
 ·refine (hz _ _ _ z.w).mono ?_
  rintro e w' ⟨rfl, rfl⟩
  rw [List.length_eq_zero_iff.1 hn] at hW ⊢
  exact ⟨_, _, _, z.St, z.g, rfl, ⟨rfl, by simp [isortK]⟩, hW, htup _ _ _, by simp⟩
 ·have hbs : b < z.w.heap.size := (Array.getElem?_eq_some_iff.1 hb).1
  have hcur : ∀ j (hj : j < l.length), cur[j]? = some (enc l[j]) := by
   intro j hj
   have hjx : j < xs.length := by omega
   have h2 : cur.toList[j]? = xs[j]? := by rw [← htk, List.getElem?_take]; simp; omega
   have h3 := hrel j 0 hj (by decide)
   simp only [encF, List.getD_cons_zero] at h3
   have h4 := hri _ _ _ _ h3
   rw [← Array.getElem?_toList, h2]
   simp [List.getD_eq_getElem?_getD, hj, hjx] at h4 ⊢
   exact h4
  have hH : Holds enc z.w b 0 l.toArray := by
   intro j hj
   have hj : j < l.length := by simpa using hj
   refine ⟨?_, ?_⟩
   ·simp only [World.cell?, hb, Nat.zero_add]
    simp [hcur j hj, hj]
   ·simp [World.frozen?, hb]
  have hc := hs b 0 cap l.toArray z.w hH hbs (by simp; omega)
  rw [List.size_toArray] at hc
  refine hc.mono ?_
  rintro e w' ⟨rfl, m, os, rfl⟩
  have hlen : (isortK ky l).length = l.length := (isortK_perm l).length_eq
  have hblk : ∀ k, k < z.w.heap.size → (sortWorld enc z.w b 0 m (isortK ky l).toArray os).heap[k]? = (if b = k then (z.w.heap[k]?).map (onCells (putCells enc 0 (isortK ky l).toArray)) else z.w.heap[k]?) := by
   intro k hk
   unfold sortWorld
   rw [heap_grow_old _ _ (by simpa using hk)]
   simp only [putRow, mapBlock, heap_ahead, Array.getElem?_modify]
  have hself := hblk b hbs
  rw [if_pos rfl, hb] at hself
  simp only [Option.map_some, onCells] at hself
  have hother : ∀ k, k < z.w.heap.size → k ≠ b → (sortWorld enc z.w b 0 m (isortK ky l).toArray os).heap[k]? = z.w.heap[k]? := fun k hk hne => by rw [hblk k hk, if_neg (Ne.symm hne)]
  have hO := hW.ow 2000 _ _ (by simp [Heap.get]; rfl) hg b rfl
  have hsz : (sortWorld enc z.w b 0 m (isortK ky l).toArray os).heap.size = z.w.heap.size + os.size := by simp [sortWorld]
  refine ⟨_, _, _, z.St, z.g, rfl, ⟨rfl, rfl⟩, ⟨⟨rfl, rfl, rfl, by rw [hsz]; omega, fun k hk hno => hother k hk (fun e => hno (e ▸ hO.2.elim id (fun h => absurd h (by omega))))⟩, fun _ h => h, fun k hk => ⟨by rw [hsz]; have := (hW.st1 k hk).1; omega, .inl hk⟩, ?_, ?_, ?_⟩, htup _ _ _, by simp⟩
  ·intro r bb v hbb hgr k hk
   simp only [Heap.get] at hbb
   split at hbb
   ·rename_i e; subst e
    rw [hg] at hgr; cases hgr
    exact hW.ow 2000 _ _ (by simp [Heap.get]; rfl) hg k hk
   ·cases hbb
  ·intro r bb hbb
   simp only [Heap.get] at hbb
   split at hbb
   ·rename_i e; subst e
    cases hbb
    refine ⟨_, hg, (isortK ky l).map enc, ⟨by simp [hlen], .inr ⟨b, cap, putCells enc 0 (isortK ky l).toArray cur, by rw [hlen], hb0, hself, by omega, hcm, by simp [putCells, hcs], ?_⟩⟩, ?_, ?_⟩
    ·apply List.ext_getElem?
     intro k
     rw [List.getElem?_take, Array.getElem?_toList]
     simp only [putCells, Array.getElem?_mapIdx, List.size_toArray, Nat.zero_le, true_and, Nat.zero_add, Nat.sub_zero, Nat.mul_one, List.getElem?_map]
     by_cases hk : k < (isortK ky l).length
     ·have hkc : k < cur.size := by omega
      simp [hk, hkc]
     ·simp [hk]
    ·intro i j hi hj
     obtain rfl : j = 0 := by omega
     simp only [encF, List.getD_cons_zero, Nat.mul_one, Nat.add_zero]
     have : ((isortK ky l).map enc).getD i undef = enc ((isortK ky l).getD i dflt) := by simp [List.getD_eq_getElem?_getD, hi]
     rw [this]
     exact hre _ _ _
    ·intro x hx
     obtain ⟨y, _, rfl⟩ := List.mem_map.1 hx
     exact h1 y
   ·cases hbb
  ·intro r r' bb bb' v v' hbb hbb' _ _ hne
   simp only [Heap.get] at hbb hbb'
   split at hbb
   ·split at hbb'
    ·exact absurd (by omega) hne
    ·cases hbb'
   ·cases hbb
end Go.Abs
