/- Calls by contract. -/
import Derived.Test.YtmcmhjdmilgoeaaGreatDoorAbsL
namespace Go.Abs
open Go

mutual
def V.flat : V → Bool
  | .arr _ _ _ => false
  | .elem _ _ _ _ _ => false
  | .mp _ _ _ => false
  | .agg cs => V.flatAll cs
  | .tup cs => V.flatAll cs
  | .fn _ cs => V.flatAll cs
  | .opt _ v => V.flat v
  | _ => true
def V.flatAll : List V → Bool
  | [] => true
  | v :: l => V.flat v && V.flatAll l
end
theorem V.flatAll_get : ∀ {l : List V} {i : Nat}, V.flatAll l = true → V.flat (l.getD i .any) = true
  | [], i, _ => by simp [V.flat]
  | v :: l, 0, h => by simp only [V.flatAll, Bool.and_eq_true] at h; simpa using h.1
  | v :: l, i + 1, h => by simp only [V.flatAll, Bool.and_eq_true] at h; simpa using V.flatAll_get (i := i) h.2
theorem Rel.flat {St St' : Nat → Prop} {w : World} : ∀ {g : Gh} {v : V} {x : Value}, Rel St w g v x → v.flat = true → Rel St' w g v x := by
  intro g v x h
  induction h with
  | any => intro _; exact .any _ _
  | bool => intro _; exact .bool _ _
  | int => intro _; exact .int _ _ _
  | b16 => intro _; exact .b16 _ _
  | str g l s h => intro _; exact .str _ _ _ h
  | agg g cs vs hl h ih => intro e; simp only [V.flat] at e; exact .agg _ _ _ hl fun i hi => ih i hi (V.flatAll_get e)
  | tup g cs vs hl h ih => intro e; simp only [V.flat] at e; exact .tup _ _ _ hl fun i hi => ih i hi (V.flatAll_get e)
  | nils => intro _; exact .nils _
  | arr0 => intro _; exact .arr0 _ _ _
  | arr g sz n f b o cap x hcap hmax hs hc h1 hr ih => intro e; simp [V.flat] at e
  | elem g sz n f i off b o x hi hs hc h1 hr => intro e; simp [V.flat] at e
  | own g r v h h1 => intro _; exact .own _ _ _ h h1
  | ptr g r off b h => intro _; exact .ptr _ _ _ _ h
  | oelem g r sz i off b n cap h => intro _; exact .oelem _ _ _ _ _ _ _ _ h
  | osl g r sz i off b n cap h => intro _; exact .osl _ _ _ _ _ _ _ _ h
  | fn g f cs vs hl h ih => intro e; simp only [V.flat] at e; exact .fn _ _ _ _ hl fun i hi => ih i hi (V.flatAll_get e)
  | lit => intro _; exact .lit _ _
  | abool g p b h => intro _; exact .abool _ p b h
  | mp g n kf vf b es hs ho hn hb hk hv => intro e; simp [V.flat] at e
  | opt g c v x h h0 ih => intro e; simp only [V.flat] at e; exact .opt _ _ _ _ (fun hc => ih hc e) h0

mutual
def V.within (ids : List Nat) : V → Bool
  | .own r => ids.contains r
  | .ptr r _ => ids.contains r
  | .oelem r _ _ _ => ids.contains r
  | .osl r _ _ _ => ids.contains r
  | .agg cs => V.withinAll ids cs
  | .tup cs => V.withinAll ids cs
  | .fn _ cs => V.withinAll ids cs
  | .opt _ v => V.within ids v
  | _ => true
def V.withinAll (ids : List Nat) : List V → Bool
  | [] => true
  | v :: l => V.within ids v && V.withinAll ids l
end
theorem V.withinAll_get {ids : List Nat} : ∀ {l : List V} {i : Nat}, V.withinAll ids l = true → V.within ids (l.getD i .any) = true
  | [], i, _ => by simp [V.within]
  | v :: l, 0, h => by simp only [V.withinAll, Bool.and_eq_true] at h; simpa using h.1
  | v :: l, i + 1, h => by simp only [V.withinAll, Bool.and_eq_true] at h; simpa using V.withinAll_get (i := i) h.2
theorem Rel.within {St : Nat → Prop} {w : World} {ids : List Nat} : ∀ {g : Gh} {v : V} {x : Value}, Rel St w g v x → ∀ {g' : Gh}, (∀ k, k ∈ ids → g' k = g k) → v.within ids = true → Rel St w g' v x := by
  intro g v x h
  induction h with
  | any => intro _ _ _; exact .any _ _
  | bool => intro _ _ _; exact .bool _ _
  | int => intro _ _ _; exact .int _ _ _
  | b16 => intro _ _ _; exact .b16 _ _
  | str g l s h => intro _ _ _; exact .str _ _ _ h
  | agg g cs vs hl h ih => intro g' hg e; simp only [V.within] at e; exact .agg _ _ _ hl fun i hi => ih i hi hg (V.withinAll_get e)
  | tup g cs vs hl h ih => intro g' hg e; simp only [V.within] at e; exact .tup _ _ _ hl fun i hi => ih i hi hg (V.withinAll_get e)
  | nils => intro _ _ _; exact .nils _
  | arr0 => intro _ _ _; exact .arr0 _ _ _
  | arr g sz n f b o cap x hcap hmax hs hc h1 hr ih => intro _ _ _; exact .arr _ sz n f b o cap x hcap hmax hs hc h1 hr
  | elem g sz n f i off b o x hi hs hc h1 hr ih => intro _ _ _; exact .elem _ sz n f i off b o x hi hs hc h1 hr
  | own g r v h h1 => intro g' hg e; simp [V.within] at e; exact .own _ _ _ (by rw [hg r e]; exact h) h1
  | ptr g r off b h => intro g' hg e; simp [V.within] at e; exact .ptr _ _ _ _ (by rw [hg r e]; exact h)
  | oelem g r sz i off b n cap h => intro g' hg e; simp [V.within] at e; exact .oelem _ _ _ _ _ _ _ _ (by rw [hg r e]; exact h)
  | osl g r sz i off b n cap h => intro g' hg e; simp [V.within] at e; exact .osl _ _ _ _ _ _ _ _ (by rw [hg r e]; exact h)
  | fn g f cs vs hl h ih => intro g' hg e; simp only [V.within] at e; exact .fn _ _ _ _ hl fun i hi => ih i hi hg (V.withinAll_get e)
  | lit => intro _ _ _; exact .lit _ _
  | abool g p b h => intro _ _ _; exact .abool _ p b h
  | mp g n kf vf b es hs ho hn hb hk hv => intro _ _ _; exact .mp _ n kf vf b es hs ho hn hb hk hv
  | opt g c v x h h0 ih => intro g' hg e; simp only [V.within] at e; exact .opt _ _ _ _ (fun hc => ih hc hg e) h0

def Blk.within (ids : List Nat) : Blk → Bool
  | .cells _ cs => V.withinAll ids cs
  | .rows .. => true
  | .iter .. => true
  | .siter .. => true
  | .mapB .. => true
  | .yld o _ => (yoIds o).all ids.contains
def Heap.within (ids : List Nat) : Heap → Bool
  | [] => true
  | (_, b) :: h => b.within ids && Heap.within ids h
theorem Heap.within_get {ids : List Nat} : ∀ {h : Heap} {k : Nat} {b : Blk}, Heap.within ids h = true → h.get k = some b → b.within ids = true
  | [], _, _, _, hg => by simp [Heap.get] at hg
  | (a, c) :: h, k, b, hf, hg => by
    simp only [Heap.within, Bool.and_eq_true] at hf
    simp only [Heap.get] at hg
    split at hg
    · cases hg; exact hf.1
    · exact Heap.within_get hf.2 hg
def Blk.Flat : Blk → Prop
  | .cells _ cs => V.flatAll cs = true
  | .rows _ sz n f => ∀ i j, i < n → j < sz → (f i j).flat = true
  | .iter .. => False
  | .siter .. => True
  | .mapB n kf vf => ∀ i, i < n → (kf i).flat = true ∧ (vf i).flat = true
  | .yld o _ => o = none
def Heap.Flat : Heap → Prop
  | [] => True
  | (_, b) :: h => b.Flat ∧ Heap.Flat h
theorem Heap.Flat_get : ∀ {h : Heap} {k : Nat} {b : Blk}, Heap.Flat h → h.get k = some b → b.Flat
  | [], _, _, _, hg => by simp [Heap.get] at hg
  | (a, c) :: h, k, b, hf, hg => by
    simp only [Heap.get] at hg
    split at hg
    · cases hg; exact hf.1
    · exact Heap.Flat_get hf.2 hg

theorem Heap.get_append (h1 h2 : Heap) (k : Nat) : Heap.get (h1 ++ h2) k = match h1.get k with | some b => some b | none => h2.get k := by
  induction h1 with
  | nil => rfl
  | cons p h ih =>
    obtain ⟨a, b⟩ := p
    simp only [List.cons_append, Heap.get]
    split
    · rfl
    · exact ih
theorem Heap.get_mem {h : Heap} {k : Nat} {b : Blk} (hk : h.get k = some b) : k ∈ h.map (·.1) := by
  induction h with
  | nil => simp [Heap.get] at hk
  | cons p h ih =>
    obtain ⟨a, c⟩ := p
    simp only [Heap.get] at hk
    simp only [List.map_cons, List.mem_cons]
    split at hk
    · rename_i ha; exact .inl ha.symm
    · exact .inr (ih hk)
theorem Heap.mem_get {h : Heap} {k : Nat} (hk : k ∈ h.map (·.1)) : ∃ b, h.get k = some b := by
  induction h with
  | nil => simp at hk
  | cons p h ih =>
    obtain ⟨a, c⟩ := p
    simp only [List.map_cons, List.mem_cons] at hk
    simp only [Heap.get]
    split
    · exact ⟨c, rfl⟩
    · rename_i hne
      rcases hk with rfl | hk
      · exact absurd rfl hne
      · exact ih hk

def dels (ks : List Nat) (h : Heap) : Heap := h.filter fun p => !ks.contains p.1
theorem get_dels (ks : List Nat) (k : Nat) : ∀ h : Heap, Heap.get (dels ks h) k = if k ∈ ks then none else h.get k
  | [] => by simp [dels, Heap.get]
  | (a, b) :: h => by
    have ih := get_dels ks k h
    unfold dels at ih ⊢
    by_cases ha : a ∈ ks
    · have : ks.contains a = true := by simpa using ha
      simp only [List.filter_cons, this, Bool.not_true, Bool.false_eq_true, if_false, ih, Heap.get]
      by_cases hk : k ∈ ks
      · simp [hk]
      · have : a ≠ k := fun e => hk (e ▸ ha)
        simp [hk, this]
    · have : ks.contains a = false := by simpa using ha
      simp only [List.filter_cons, this, Bool.not_false, if_true, Heap.get, ih]
      by_cases hk : a = k
      · subst hk; simp [ha]
      · simp [hk]
def tdrops (ks : List Nat) (t : List (Nat × V)) : List (Nat × V) := ks.foldr tdrop t
def hdrops (ks : List Nat) (h : Heap) : Heap := ks.foldr hdrop h

/-- Boxes whose contents name nothing but 'ids', own blocks that are bound anew. -/
def isBoxIn (h : Heap) (k : Nat) : Bool := match h.get k with
  | some (.cells _ _) => true
  | _ => false
def newIds (h0 h1 : Heap) : List Nat := (h1.map (·.1)).filter fun k => !(isBoxIn h0 k && isBoxIn h1 k)

/-- A value is lent: an own row reads as an immutable slice for the time of the call. -/
def lendV (h : Heap) : List Nat → V → V
  | [], v => v
  | r :: L, v => match h.get r with
    | some (.rows _ sz n f) => lendV h L (V.frz r sz n f v)
    | _ => lendV h L v

def hsub (h0 h : Heap) : Prop := hcov h h0

theorem Rel.lend {z : Start} {St : Nat → Prop} {g : Gh} {h : Heap} {w : World} (hW : WSim z St g h w) {St' : Nat → Prop} (hS : ∀ k, St k → St' k) : ∀ (L : List Nat),
    (∀ r, r ∈ L → ∀ b v k, h.get r = some b → g r = some v → blockOf v = some k → St' k) → ∀ {v : V} {x : Value}, Rel St' w g v x → Rel St' w g (lendV h L v) x
  | [], _, v, x, hr => hr
  | r :: L, hL, v, x, hr => by
    simp only [lendV]
    split
    · rename_i e sz n f hh
      refine Rel.lend hW hS L (fun q hq => hL q (List.mem_cons_of_mem _ hq)) ?_
      obtain ⟨u, hgu, xs, ho, hrr, h1⟩ := hW.ok r _ hh
      refine Rel.frz (fun _ h => h) ?_ hr hgu
      rcases ho.2 with ⟨rfl, hn⟩ | ⟨b, cap, cur, rfl, _, hb, hncap, hcapm, hsz, htake⟩
      · subst hn; exact .arr0 _ _ _
      · refine .arr _ sz n f b 0 cap (fun i j => xs.getD (i * sz + j) undef) hncap (Nat.le_trans hncap hcapm) (fun _ _ => hL r (List.mem_cons_self ..) _ _ b hh hgu rfl) (fun i j hi hj => ?_) (fun i j hi hj => ?_) (fun i j hi hj => (hrr i j hi hj).mono hS (fun _ _ => rfl))
        · rw [Nat.zero_add]; exact ownsRow_cells ho rfl _ (idx_lt hi hj)
        · have hq := idx_lt hi hj
          refine h1 _ ?_
          have : i * sz + j < xs.length := by rw [ho.1]; exact hq
          rw [List.getD_eq_getElem?_getD, List.getElem?_eq_getElem this]
          exact List.getElem_mem this
    · exact Rel.lend hW hS L (fun q hq => hL q (List.mem_cons_of_mem _ hq)) hr

theorem TSim.drops {St : Nat → Prop} {w : World} {N : Nat} {a : Act} : ∀ (ks : List Nat) {g g' : Gh} {t : List (Nat × V)}, TSim St w g N t a → (∀ k, k ∉ ks → g' k = g k) → TSim St w g' N (tdrops ks t) a
  | [], g, g', t, h, hg => by
    have : g' = g := funext fun k => hg k (by simp)
    rw [this]; exact h
  | d :: ks, g, g', t, h, hg => by
    let g1 : Gh := fun k => if k ∈ ks then g' k else g k
    have h1 := TSim.drops ks (g' := g1) h (fun k hk => by simp [g1, hk])
    refine h1.drop (w' := w) (fun _ _ => rfl) (d := d) fun k hk => ?_
    by_cases hks : k ∈ ks
    · simp [g1, hks]
    · rw [hg k (by simp [hk, hks])]; simp [g1, hks]

theorem BlkOk.ghost {St : Nat → Prop} {w : World} {g g' : Gh} {v : Value} {b : Blk} (h : BlkOk St w g v b) {ids : List Nat} (hg : ∀ k, k ∈ ids → g' k = g k) (hb : b.within ids = true) : BlkOk St w g' v b := by
  cases b with
  | rows => exact h
  | iter => exact h
  | siter => exact h
  | mapB => exact h
  | yld o k =>
    obtain ⟨l, r, hv, hh, hy⟩ := h
    refine ⟨l, r, hv, hh, hy.mono (fun _ h => h) (fun _ _ => rfl) fun i hi => hg i ?_⟩
    simpa using List.all_eq_true.1 hb i hi
  | cells t cs =>
    obtain ⟨b, vals, rfl, h2, hl, hr, h1⟩ := h
    exact ⟨b, vals, rfl, h2, hl, fun i hi => (hr i hi).within hg (V.withinAll_get hb), h1⟩
theorem BlkOk.dropG {St : Nat → Prop} {w : World} {g g' : Gh} {v : Value} {b : Blk} {d : Nat} (h : BlkOk St w g v b) (hg : ∀ k, k ≠ d → g' k = g k) : BlkOk St w g' v (b.drop d) := by
  cases b with
  | rows => exact h
  | iter => exact h
  | siter => exact h
  | mapB => exact h
  | yld o k =>
    obtain ⟨l, r, hv, hh, hy⟩ := h
    refine ⟨l, r, hv, hh, ?_⟩
    unfold yoCut
    split
    · trivial
    · rename_i hc; exact hy.mono (fun _ h => h) (fun _ _ => rfl) fun i hi => hg i (by rintro rfl; exact hc (by simpa using hi))
  | cells t cs =>
    obtain ⟨b, vals, rfl, h2, hl, hr, h1⟩ := h
    refine ⟨b, vals, rfl, h2, by simpa using hl, fun i hi => ?_, fun i hi => h1 i (by simpa using hi)⟩
    have hi' : i < cs.length := by simpa using hi
    have e : (cs.map fun v => if v.fresh d then v else .any).getD i .any = if (cs.getD i .any).fresh d then cs.getD i .any else .any := by
      simp [List.getD_eq_getElem?_getD, hi']
    rw [e]
    split
    · rename_i hf; exact (hr i hi').rebind hg hf
    · exact .any _ _
theorem drops_ok {St : Nat → Prop} {w : World} : ∀ (ks : List Nat) {g g' : Gh} {h : Heap} {r : Nat} {b : Blk}, (hdrops ks h).get r = some b → (∀ k, k ∉ ks → g' k = g k) →
    ∃ b0, h.get r = some b0 ∧ ∀ v, BlkOk St w g v b0 → BlkOk St w g' v b
  | [], g, g', h, r, b, hb, hg => by
    have : g' = g := funext fun k => hg k (by simp)
    exact ⟨b, hb, fun v hv => by rw [this]; exact hv⟩
  | d :: ks, g, g', h, r, b, hb, hg => by
    simp only [hdrops, List.foldr_cons] at hb
    rw [get_hdrop, Option.map_eq_some_iff] at hb
    obtain ⟨b1, hb1, rfl⟩ := hb
    let g1 : Gh := fun k => if k ∈ ks then g' k else g k
    obtain ⟨b0, h0, hk⟩ := drops_ok (St := St) (w := w) ks (g := g) (g' := g1) hb1 (fun k hk => by simp [g1, hk])
    refine ⟨b0, h0, fun v hv => (hk v hv).dropG fun k hkd => ?_⟩
    by_cases hks : k ∈ ks
    · simp [g1, hks]
    · rw [hg k (by simp [hkd, hks])]; simp [g1, hks]

/-- A function with a Go body, called as any. -/
def callable (P : Program) (f : FuncId) : Bool := match P.funcs[f]? with
  | some fn => fn.name != "runtime.NumGoroutine" && fn.body.isSome
  | none => false

def VLes : List V → List V → Prop
  | [], [] => True
  | v :: l, v' :: l' => VLe v v' ∧ VLes l l'
  | _, _ => False
theorem VLes.len : ∀ {l l' : List V}, VLes l l' → l.length = l'.length
  | [], [], _ => rfl
  | [], _ :: _, h => h.elim
  | _ :: _, [], h => h.elim
  | _ :: l, _ :: l', h => by simp [VLes.len h.2]
theorem VLes.get : ∀ {l l' : List V}, VLes l l' → ∀ i, VLe (l.getD i .any) (l'.getD i .any)
  | [], [], _, i => by simpa using VLe.refl _
  | [], _ :: _, h, _ => h.elim
  | _ :: _, [], h, _ => h.elim
  | v :: l, v' :: l', h, 0 => by simpa using h.1
  | v :: l, v' :: l', h, i + 1 => by simpa using VLes.get h.2 i

/-- What a call's arguments are. -/
def callArgs (t : List (Nat × V)) (cl : Call) : Option (FuncId × List V) :=
  match cl.callee with
  | .value f => match raw t f with
    | .fn (.func fid) caps => if noOpt t cl.args.toList then some (fid, cl.args.toList.map (raw t) ++ caps) else none
    | _ => none
  | _ => none

end Go.Abs
