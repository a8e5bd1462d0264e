/- Part 25 of the proof: SrtK. -/
import Derived.Test.YtmcmhjdmilgoeaaGreatDoorFlttxtZ24
import Derived.Shelf.GgSortFunc.InsertionK
namespace Go.Abs
open Go Go.RowKit Go.Sort Go.Proofs

theorem getBang_getD (l : List Value) (j : Nat) (h : j < l.length) : l[j]! = l.getD j undef := by simp [List.getD_eq_getElem?_getD, h]
theorem sort_specK {P : Program} {f g : FuncId} {α : Type} [Inhabited α] (k : Nat) (hk0 : 0 < k) (enc : α → List Value) (hk : ∀ x, (enc x).length = k) (ev : α → List V) (t : TypeId) (dflt : α) (ky : α → Nat)
    (hz : ∀ (p : Option Addr) (cap : Nat) (fv : Value) (w : World), Calls P f #[.slice p 0 cap, fv] w fun e w' => e = .returned (.tuple #[]) ∧ w' = w)
    (hs : ∀ (blk off cap : Nat) (d : Array α) (w : World), HoldsK enc k w blk off d → blk < w.heap.size → d.size < 4611686018427387904 →
      Calls P f #[.slice (some ⟨blk, off, none⟩) d.size cap, .func (.func g) #[] #[]] w fun e w' => e = .returned (.tuple #[]) ∧ ∃ n os, w' = sortWorldK enc k w blk off n (isortK ky d.toList).toArray os)
    (hre : ∀ (St : Nat → Prop) (w : World) (x : α) (j : Nat), j < k → Rel St w noGh ((ev x).getD j .any) ((enc x).getD j undef))
    (hri : ∀ (St : Nat → Prop) (w : World) (x : α) (j : Nat) (v : Value), j < k → Rel St w noGh ((ev x).getD j .any) v → v = (enc x).getD j undef)
    (h1 : ∀ x v, v ∈ enc x → v.oneCell' = true) (l r : List α) (h : sortO ky l = some r) :
    Spec1 P f [] [2000] [(2000, bL t k ev dflt l)] [.own 2000, .fn (.func g) []] (.tup []) [(2000, bL t k ev dflt r)] := by
  unfold sortO at h
  split at h
  case isFalse => cases h
  rename_i hll
  cases h
  intro z vals hW hl hr _
  have e0 := hr 0 (by simp)
  have e1 := hr 1 (by simp)
  simp only [List.getD_cons_zero, List.getD_cons_succ] at e0 e1
  have hv : vals = #[vals.getD 0 undef, vals.getD 1 undef] := by
    apply Array.ext
    · simpa using hl
    · intro i h1 h2
      have : i = 0 ∨ i = 1 := by simp at h2; omega
      rcases this with rfl | rfl <;> simp [h1]
  rw [hv]
  generalize vals.getD 0 undef = u at e0
  generalize vals.getD 1 undef = u1 at e1
  cases e1 with
  | fn _ _ _ vs hvs _ =>
  obtain rfl : vs = #[] := Array.size_eq_zero_iff.1 hvs
  cases e0 with
  | own _ _ _ hg ho =>
  obtain ⟨v, hgv, xs, hown, hrel, hone⟩ := hW.ok 2000 _ (by simp [Heap.get]; rfl)
  rw [hg] at hgv
  cases hgv
  obtain ⟨hxs, hcase⟩ := hown
  have htup : ∀ (St : Nat → Prop) (w : World) (g : Gh), Rel St w g (.tup []) (.tuple #[]) := fun St w g => .tup g [] #[] rfl (fun i hi => by simp at hi)
  rcases hcase with ⟨rfl, hn⟩ | ⟨b, cap, cur, rfl, hb0, hb, hnc, hcm, hcs, htk⟩
  · refine (hz _ _ _ z.w).mono ?_
    rintro e w' ⟨rfl, rfl⟩
    rw [List.length_eq_zero_iff.1 hn] at hW ⊢
    exact ⟨_, _, _, z.St, z.g, rfl, ⟨rfl, by simp [isortK]⟩, hW, htup _ _ _, by simp⟩
  · have hbs : b < z.w.heap.size := (Array.getElem?_eq_some_iff.1 hb).1
    have hdiv : ∀ i j, j < k → (i * k + j) / k = i ∧ (i * k + j) % k = j := by
      intro i j hj
      constructor
      · rw [Nat.mul_comm, Nat.mul_add_div hk0, Nat.div_eq_of_lt hj]; rfl
      · rw [Nat.mul_comm, Nat.mul_add_mod, Nat.mod_eq_of_lt hj]
    have hlt : ∀ t n, t < n * k → t / k < n := fun t n ht => (Nat.div_lt_iff_lt_mul hk0).2 ht
    have hcur : ∀ q, q < l.length * k → cur[q]? = some ((flatK enc k l.toArray)[q]!) := by
      intro q hq
      have hi := hlt q _ hq
      have hj := Nat.mod_lt q hk0
      have hq' : q / k * k + q % k = q := Nat.div_add_mod' q k
      have hjx : q < xs.length := by omega
      have h2 : cur.toList[q]? = xs[q]? := by rw [← htk, List.getElem?_take, if_pos hq]
      have h3 := hrel (q / k) (q % k) hi hj
      simp only [encF] at h3
      have h4 := hri _ _ _ _ _ hj h3
      rw [hq'] at h4
      rw [← Array.getElem?_toList, h2, get_flatK _ _ _ _ (by simpa using hq)]
      have h5 : q % k < (enc (l.getD (q / k) dflt)).length := by rw [hk]; exact hj
      have h6 : l.toArray[q / k]! = l.getD (q / k) dflt := by simp [List.getD_eq_getElem?_getD, hi]
      rw [h6, List.getElem?_eq_getElem hjx]
      have h7 : xs.getD q undef = xs[q] := by simp [List.getD_eq_getElem?_getD, hjx]
      rw [← h7, h4, getBang_getD _ _ h5]
    have hH : HoldsK enc k z.w b 0 l.toArray := by
      intro j hj
      have hj : j < l.length * k := by simpa using hj
      refine ⟨?_, ?_⟩
      · simp only [World.cell?, hb, Nat.zero_add]
        simpa using hcur j hj
      · simp [World.frozen?, hb]
    have hc := hs b 0 cap l.toArray z.w hH hbs (by simp; omega)
    rw [List.size_toArray] at hc
    refine hc.mono ?_
    rintro e w' ⟨rfl, m, os, rfl⟩
    have hlen : (isortK ky l).length = l.length := (isortK_perm l).length_eq
    have hfs : (flatK enc k (isortK ky l).toArray).size = l.length * k := by simp [hlen]
    generalize hF : flatK enc k (isortK ky l).toArray = F at hfs
    have hwd : sortWorldK enc k z.w b 0 m (isortK ky l).toArray os = Go.Sort.grow (putRow id (Sort.ahead z.w m) b 0 F) os := by rw [← hF]; rfl
    rw [hwd]
    have hblk : ∀ q, q < z.w.heap.size → (Go.Sort.grow (putRow id (Sort.ahead z.w m) b 0 F) os).heap[q]? = (if b = q then (z.w.heap[q]?).map (onCells (putCells id 0 F)) else z.w.heap[q]?) := by
      intro q hq
      rw [heap_grow_old _ _ (by simpa using hq)]
      simp only [putRow, mapBlock, heap_ahead, Array.getElem?_modify]
    have hself := hblk b hbs
    rw [if_pos rfl, hb] at hself
    simp only [Option.map_some, onCells] at hself
    have hother : ∀ q, q < z.w.heap.size → q ≠ b → (Go.Sort.grow (putRow id (Sort.ahead z.w m) b 0 F) os).heap[q]? = z.w.heap[q]? := fun q hq hne => by rw [hblk q hq, if_neg (Ne.symm hne)]
    have hO := hW.ow 2000 _ _ (by simp [Heap.get]; rfl) hg b rfl
    have hsz : (Go.Sort.grow (putRow id (Sort.ahead z.w m) b 0 F) os).heap.size = z.w.heap.size + os.size := by simp
    refine ⟨_, _, _, z.St, z.g, rfl, ⟨rfl, rfl⟩, ⟨⟨rfl, rfl, rfl, by rw [hsz]; omega, fun q hq hno => hother q hq (fun e => hno (e ▸ hO.2.elim id (fun h => absurd h (by omega))))⟩, fun _ h => h, fun q hq => ⟨by rw [hsz]; have := (hW.st1 q hq).1; omega, .inl hq⟩, ?_, ?_, ?_⟩, htup _ _ _, by simp⟩
    · intro r bb v hbb hgr q hq
      simp only [Heap.get] at hbb
      split at hbb
      · rename_i e; subst e
        rw [hg] at hgr; cases hgr
        exact hW.ow 2000 _ _ (by simp [Heap.get]; rfl) hg q hq
      · cases hbb
    · intro r bb hbb
      simp only [Heap.get] at hbb
      split at hbb
      · rename_i e; subst e
        cases hbb
        have hget : ∀ q, q < l.length * k → F[q]! = (enc ((isortK ky l).getD (q / k) dflt)).getD (q % k) undef := by
          intro q hq
          have hi := hlt q _ hq
          have hj := Nat.mod_lt q hk0
          rw [← hF, get_flatK _ _ _ _ (by simpa [hlen] using hq)]
          have hi2 : q / k < (isortK ky l).length := by omega
          have h6 : (isortK ky l).toArray[q / k]! = (isortK ky l).getD (q / k) dflt := by simp [List.getD_eq_getElem?_getD, hi2]
          rw [h6]
          have h5 : q % k < (enc ((isortK ky l).getD (q / k) dflt)).length := by rw [hk]; exact hj
          rw [getBang_getD _ _ h5]
        refine ⟨_, hg, F.toList, ⟨by simp [hfs, hlen], .inr ⟨b, cap, putCells id 0 F cur, by rw [hlen], hb0, hself, by omega, hcm, by simp [putCells, hcs], ?_⟩⟩, ?_, ?_⟩
        · have hle : l.length * k ≤ cap * k := Nat.mul_le_mul_right k hnc
          apply List.ext_getElem?
          intro q
          rw [List.getElem?_take, Array.getElem?_toList, Array.getElem?_toList, hlen]
          simp only [putCells, Array.getElem?_mapIdx, Nat.zero_le, true_and, Nat.zero_add, Nat.sub_zero]
          by_cases hq : q < l.length * k
          · have hqc : q < cur.size := by omega
            have hqf : q < F.size := by omega
            simp [hq, hqc, hqf]
          · have hqf : ¬ q < F.size := by omega
            simp [hq, hqf]
        · intro i j hi hj
          rw [hlen] at hi
          have hq : i * k + j < l.length * k := by
            have : (i + 1) * k ≤ l.length * k := Nat.mul_le_mul_right k hi
            rw [Nat.add_mul, Nat.one_mul] at this; omega
          have hqf : i * k + j < F.size := by omega
          have h8 : F.toList.getD (i * k + j) undef = F[i * k + j]! := by
            simp [List.getD_eq_getElem?_getD, hqf]
          rw [h8, hget _ hq, (hdiv i j hj).1, (hdiv i j hj).2]
          exact hre _ _ _ _ hj
        · intro x hx
          obtain ⟨q, hq, rfl⟩ := List.getElem_of_mem hx
          have hq' : q < l.length * k := by simpa [hfs] using hq
          have h9 : F.toList[q] = F[q]! := by
            have : q < F.size := by omega
            simp [this]
          rw [h9, hget q hq']
          have h5 : q % k < (enc ((isortK ky l).getD (q / k) dflt)).length := by rw [hk]; exact Nat.mod_lt q hk0
          apply h1 ((isortK ky l).getD (q / k) dflt)
          have h10 : (enc ((isortK ky l).getD (q / k) dflt)).getD (q % k) undef = (enc ((isortK ky l).getD (q / k) dflt))[q % k] := by
            rw [List.getD_eq_getElem?_getD (l := enc ((isortK ky l).getD (q / k) dflt)), List.getElem?_eq_getElem h5]; rfl
          rw [h10]
          exact List.getElem_mem h5
      · cases hbb
    · intro r r' bb bb' v v' hbb hbb' _ _ hne
      simp only [Heap.get] at hbb hbb'
      split at hbb
      · split at hbb'
        · exact absurd (by omega) hne
        · cases hbb'
      · cases hbb
end Go.Abs
