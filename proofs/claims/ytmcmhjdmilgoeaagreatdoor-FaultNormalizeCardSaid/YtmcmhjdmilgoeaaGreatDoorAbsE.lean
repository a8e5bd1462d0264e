/- The operations that only read: all in one function, and that the model agrees. -/
import Derived.Test.YtmcmhjdmilgoeaaGreatDoorAbsD
namespace Go.Abs
open Go

/-! ### Constants -/
def vcon1 : Value → V
  | .bool b => .bool b
  | .int .u16 n => if 0 ≤ n ∧ n < 65536 then .b16 (BitVec.ofInt 16 n) else .lit (.int .u16 n)
  | .int k n => .int k n
  | .string s => .str s.data.toList
  | .slice none 0 0 => .nils
  | v => .lit v
def vcon : Value → V
  | .agg cs => .agg (cs.toList.map vcon1)
  | v => vcon1 v

theorem rel_vcon1 {St : Nat → Prop} {w : World} {g : Gh} (v : Value) : Rel St w g (vcon1 v) v := by
  unfold vcon1
  split
  · exact .bool _ _
  · split
    · rename_i n hn
      have e : n = ((BitVec.ofInt 16 n).toNat : Int) := by simp [BitVec.toNat_ofInt]; omega
      have := Rel.b16 (St := St) (w := w) g (BitVec.ofInt 16 n)
      rwa [← e] at this
    · exact .lit _ _
  · exact .int _ _ _
  · exact .str _ _ _ rfl
  · exact .nils _
  · exact .lit _ _
theorem rel_vcon {St : Nat → Prop} {w : World} {g : Gh} (v : Value) : Rel St w g (vcon v) v := by
  unfold vcon
  split
  · rename_i cs
    refine .agg _ _ _ (by simp) fun i hi => ?_
    have hi' : i < cs.size := by simpa using hi
    have e1 : (cs.toList.map vcon1).getD i .any = vcon1 cs[i] := by simp [List.getD_eq_getElem?_getD, hi']
    have e2 : cs.getD i undef = cs[i] := by simp [hi']
    rw [e1, e2]; exact rel_vcon1 _
  · exact rel_vcon1 _

/-! ### Structs and arrays out of parts -/
def setCells (cs : List V) (off : Nat) : List V → List V
  | [] => cs
  | v :: l => setCells (cs.set off v) (off + 1) l
def V.cells : V → List V
  | .agg cs => cs
  | v => [v]
def fillV (place : Nat → Option (Nat × Nat)) (cells : List V) : List (Nat × V) → Option (List V)
  | [] => some cells
  | (i, v) :: rest => match place i with
    | none => none
    | some (off, size) => if v.cells.length = size ∧ off + size ≤ cells.length then fillV place (setCells cells off v.cells) rest else none

theorem setCells_length : ∀ (l : List V) (cs : List V) (off : Nat), (setCells cs off l).length = cs.length
  | [], _, _ => rfl
  | v :: l, cs, off => by simp [setCells, setCells_length l]

def V.isVal : V → Bool
  | .any => false
  | .tup _ => false
  | .opt _ _ => false
  | .lit (.agg _) => false
  | .lit (.tuple _) => false
  | _ => true

/-- The cells of a value. -/
theorem Rel.cells {St : Nat → Prop} {w : World} {g : Gh} {v : V} {x : Value} (h : Rel St w g v x) (hv : v.isVal = true) :
    x.cells.size = v.cells.length ∧ ∀ i, i < v.cells.length → Rel St w g (v.cells.getD i .any) (x.cells.getD i undef) := by
  have one : ∀ {v : V} {x : Value}, Rel St w g v x → v.cells = [v] → x.cells = #[x] →
      x.cells.size = v.cells.length ∧ ∀ i, i < v.cells.length → Rel St w g (v.cells.getD i .any) (x.cells.getD i undef) := by
    intro v x h h1 h2
    rw [h1, h2]
    refine ⟨rfl, fun i hi => ?_⟩
    obtain rfl : i = 0 := by simpa using hi
    simpa using h
  cases h with
  | any => simp [V.isVal] at hv
  | tup => simp [V.isVal] at hv
  | opt => simp [V.isVal] at hv
  | agg _ cs vs hl h => exact ⟨hl, h⟩
  | lit x => cases x <;> first | (simp [V.isVal] at hv; done) | exact one (.lit _ _) rfl rfl
  | bool => exact one (.bool _ _) rfl rfl
  | int => exact one (.int _ _ _) rfl rfl
  | b16 => exact one (.b16 _ _) rfl rfl
  | str _ l s h => exact one (.str _ _ _ h) rfl rfl
  | nils => exact one (.nils _) rfl rfl
  | arr0 => exact one (.arr0 _ _ _) rfl rfl
  | arr _ sz n f b o cap x hcap hmax hs hc h1 hr => exact one (.arr _ sz n f b o cap x hcap hmax hs hc h1 hr) rfl rfl
  | elem _ sz n f i off b o x hi hs hc h1 hr => exact one (.elem _ sz n f i off b o x hi hs hc h1 hr) rfl rfl
  | own _ r v h h1 => exact one (.own _ r _ h h1) rfl (by cases x <;> first | rfl | (simp [Value.oneCell'] at h1; done))
  | ptr _ r off b h => exact one (.ptr _ r off b h) rfl rfl
  | oelem _ r sz i off b n cap h => exact one (.oelem _ r sz i off b n cap h) rfl rfl
  | osl _ r sz i off b n cap h => exact one (.osl _ r sz i off b n cap h) rfl rfl
  | fn _ f cs vs hl h => exact one (.fn _ f cs vs hl h) rfl rfl
  | abool _ p b h => exact one (.abool _ p b h) rfl rfl
  | mp _ n kf vf b es hs ho hn hb hk hv2 => exact one (.mp _ n kf vf b es hs ho hn hb hk hv2) rfl rfl

theorem Rel.one {St : Nat → Prop} {w : World} {g : Gh} {v : V} {x : Value} (h : Rel St w g v x) (hv : v.isVal = true) (ha : ∀ cs, v ≠ .agg cs) : x.oneCell' = true := by
  cases h with
  | any => simp [V.isVal] at hv
  | tup => simp [V.isVal] at hv
  | opt => simp [V.isVal] at hv
  | agg _ cs vs hl h => exact absurd rfl (ha cs)
  | lit x => cases x <;> first | rfl | (simp [V.isVal] at hv; done)
  | own _ r v h h1 => exact h1
  | _ => rfl

theorem rel_set {St : Nat → Prop} {w : World} {g : Gh} {cs : List V} {vs : Array Value} {o : Nat} {v : V} {u : Value} (hs : vs.size = cs.length) (hv : Rel St w g v u)
    (hr : ∀ i, i < cs.length → Rel St w g (cs.getD i .any) (vs.getD i undef)) : ∀ i, i < cs.length → Rel St w g ((cs.set o v).getD i .any) ((vs.setIfInBounds o u).getD i undef) := by
  intro i hi
  by_cases h : o = i
  · subst h
    have h2 : o < vs.size := by omega
    simpa [List.getD_eq_getElem?_getD, hi, h2] using hv
  · have := hr i hi
    simpa [List.getD_eq_getElem?_getD, h, Array.getElem?_setIfInBounds_ne h] using this

theorem fill_step {St : Nat → Prop} {w : World} {g : Gh} (off : Nat) : ∀ (l : List V) (us : List Value) (cs : List V) (vs : Array Value) (k : Nat), us.length = l.length → vs.size = cs.length →
    (∀ i, i < l.length → Rel St w g (l.getD i .any) (us.getD i undef)) → (∀ i, i < cs.length → Rel St w g (cs.getD i .any) (vs.getD i undef)) →
    ((us.zipIdx k).foldl (fun cs (p : Value × Nat) => cs.setIfInBounds (off + p.2) p.1) vs).size = cs.length ∧
      ∀ i, i < cs.length → Rel St w g ((setCells cs (off + k) l).getD i .any) (((us.zipIdx k).foldl (fun cs (p : Value × Nat) => cs.setIfInBounds (off + p.2) p.1) vs).getD i undef)
  | [], [], cs, vs, k, _, hs, _, hr => ⟨by simpa using hs, fun i hi => by simpa [setCells] using hr i hi⟩
  | [], _ :: _, _, _, _, h, _, _, _ => by simp at h
  | _ :: _, [], _, _, _, h, _, _, _ => by simp at h
  | v :: l, u :: us, cs, vs, k, hl, hs, hv, hr => by
    simp only [List.zipIdx_cons, List.foldl_cons, setCells]
    have ih := fill_step off l us (cs.set (off + k) v) (vs.setIfInBounds (off + k) u) (k + 1) (by simpa using hl) (by simpa using hs)
      (fun i hi => by simpa using hv (i + 1) (by simp; omega))
      (fun i hi => rel_set hs (by simpa using hv 0 (by simp)) hr i (by simpa using hi))
    simp only [List.length_set] at ih
    exact ih

theorem run_fill {St : Nat → Prop} {w : World} {g : Gh} {place : Nat → Option (Nat × Nat)} : ∀ {parts : List (Nat × V)} {us : List (Nat × Value)} {cs cs' : List V} {vs : Array Value},
    fillV place cs parts = some cs' → us.length = parts.length → (∀ i, i < parts.length → (us.getD i (0, undef)).1 = (parts.getD i (0, .any)).1 ∧ Rel St w g (parts.getD i (0, .any)).2 (us.getD i (0, undef)).2 ∧ (parts.getD i (0, .any)).2.isVal = true) →
    vs.size = cs.length → (∀ i, i < cs.length → Rel St w g (cs.getD i .any) (vs.getD i undef)) →
    ∃ vs', Instr.fill place vs us = some vs' ∧ vs'.size = cs'.length ∧ cs'.length = cs.length ∧ ∀ i, i < cs'.length → Rel St w g (cs'.getD i .any) (vs'.getD i undef)
  | [], [], cs, cs', vs, h, _, _, hs, hr => by
    simp only [fillV, Option.some.injEq] at h; subst h
    exact ⟨vs, rfl, hs, rfl, hr⟩
  | [], _ :: _, _, _, _, _, h, _, _, _ => by simp at h
  | _ :: _, [], _, _, _, _, h, _, _, _ => by simp at h
  | (i, v) :: parts, (i', u) :: us, cs, cs', vs, h, hl, hp, hs, hr => by
    have h0 := hp 0 (by simp)
    simp only [List.getD_cons_zero] at h0
    obtain ⟨rfl, hrel, hval⟩ := h0
    simp only [fillV] at h
    split at h
    case h_1 => cases h
    rename_i off size hpl
    split at h
    case isFalse => cases h
    rename_i hc
    obtain ⟨hcl, hcr⟩ := hrel.cells hval
    have hst := fill_step off v.cells u.cells.toList cs vs 0 (by simpa using hcl) hs (fun i hi => by simpa [List.getD_eq_getElem?_getD] using hcr i hi) hr
    have ih := run_fill (place := place) (us := us) h (by simpa using hl) (fun i hi => by simpa using hp (i + 1) (by simp; omega)) (by rw [setCells_length]; exact hst.1) (fun i hi => hst.2 i (by rwa [setCells_length] at hi))
    obtain ⟨vs', h1, h2, h3, h4⟩ := ih
    refine ⟨vs', ?_, h2, by rw [h3, setCells_length], h4⟩
    simp only [Instr.fill, hpl]
    rw [if_neg (by simp; omega)]
    rw [← h1]
    congr 1
    rw [← Array.foldl_toList]
    simp

def zeroV (P : Program) (t : TypeId) : Option V :=
  match P.info? t with
  | some i => match i.zero with
    | some z => some (vcon z)
    | none => none
  | none => none
theorem run_zeroV {P : Program} {St : Nat → Prop} {w : World} {g : Gh} {t : TypeId} {v : V} (h : zeroV P t = some v) : ∃ z, (zeroValue t).run P w = .ok z w ∧ v = vcon z ∧ Rel St w g v z := by
  unfold zeroV at h
  split at h
  case h_2 => cases h
  rename_i i hi
  split at h
  case h_2 => cases h
  rename_i z hz
  cases h
  exact ⟨z, by simp [zeroValue, typeInfo, hi, hz], rfl, rel_vcon z⟩

theorem isVal_vcon1 (v : Value) (h : v.oneCell' = true) : (vcon1 v).isVal = true := by
  unfold vcon1
  split <;> try rfl
  · split <;> rfl
  · cases v <;> first | rfl | (simp [Value.oneCell'] at h; done)

def buildV (P : Program) (t : TypeId) (parts : List (Nat × V)) : Option V :=
  match zeroV P t, P.underlying t with
  | some (.agg z), some (.struct fields) =>
    match (fields.toList.mapM fun f => (szOf P f.type).map fun k => (f.offset, k)) with
    | some places => if parts.all (fun p => p.2.isVal) then (fillV (places[·]?) z parts).map .agg else none
    | none => none
  | some (.agg z), some (.array _ e) =>
    match szOf P e with
    | some k => if parts.all (fun p => p.2.isVal) then (fillV (fun i => some (i * k, k)) z parts).map .agg else none
    | none => none
  | _, _ => none

theorem run_mapM_places {P : Program} {w : World} : ∀ {fs : List Field} {places : List (Nat × Nat)}, fs.mapM (fun f => (szOf P f.type).map fun k => (f.offset, k)) = some places →
    (fs.mapM (fun f => do pure (f.offset, ← sizeOf f.type) : Field → Sem (Nat × Nat))).run P w = .ok places w
  | [], places, h => by simp at h; subst h; rfl
  | f :: fs, places, h => by
    simp only [List.mapM_cons, Option.bind_eq_bind, Option.bind_eq_some_iff, Option.map_eq_some_iff, Option.pure_def, Option.some.injEq] at h
    obtain ⟨p, ⟨k, hk, rfl⟩, ps, hps, rfl⟩ := h
    simp only [List.mapM_cons, Sem.run_bind, run_szOf hk, Result.andThen_ok, Sem.run_pure, run_mapM_places hps]

theorem run_buildV {P : Program} {St : Nat → Prop} {w : World} {g : Gh} {t : TypeId} {parts : List (Nat × V)} {v : V} (h : buildV P t parts = some v) {us : Array (Nat × Value)} (hl : us.size = parts.length)
    (hp : ∀ i, i < parts.length → (us.getD i (0, undef)).1 = (parts.getD i (0, .any)).1 ∧ Rel St w g (parts.getD i (0, .any)).2 (us.getD i (0, undef)).2) :
    ∃ x, (Instr.build t us).run P w = .ok x w ∧ Rel St w g v x := by
  have hval : parts.all (fun p => p.2.isVal) = true → ∀ i, i < parts.length → (parts.getD i (0, .any)).2.isVal = true := by
    intro ha i hi
    have := List.all_eq_true.1 ha (parts[i]) (by simp)
    simpa [List.getD_eq_getElem?_getD, hi] using this
  unfold buildV at h
  split at h
  · rename_i z fields hz hu
    obtain ⟨zv, hzr, hze, hzrel⟩ := run_zeroV (P := P) (St := St) (w := w) (g := g) hz
    obtain ⟨zs, rfl, hzl, hzc⟩ := hzrel.agg_inv
    split at h
    case h_2 => cases h
    rename_i places hpl
    split at h
    case isFalse => cases h
    rename_i ha
    rw [Option.map_eq_some_iff] at h
    obtain ⟨cs', hf, rfl⟩ := h
    obtain ⟨vs', h1, h2, h3, h4⟩ := run_fill (us := us.toList) hf (by simpa using hl) (fun i hi => ⟨by simpa [List.getD_eq_getElem?_getD] using (hp i hi).1, by simpa [List.getD_eq_getElem?_getD] using (hp i hi).2, hval ha i hi⟩) hzl hzc
    refine ⟨.agg vs', ?_, .agg _ _ _ h2 h4⟩
    have hm := run_mapM_places (w := w) hpl
    have hm' : (fields.mapM (fun f => do pure (f.offset, ← sizeOf f.type) : Field → Sem (Nat × Nat))).run P w = .ok places.toArray w := by
      rw [Array.mapM_eq_mapM_toList, Sem.run_map, hm]; rfl
    simp only [Instr.build, Sem.run_bind, hzr, Result.andThen_ok, run_underlying hu, Value.cells, hm', List.getElem?_toArray, h1, Sem.run_pure]
  · rename_i z n e hz hu
    obtain ⟨zv, hzr, hze, hzrel⟩ := run_zeroV (P := P) (St := St) (w := w) (g := g) hz
    obtain ⟨zs, rfl, hzl, hzc⟩ := hzrel.agg_inv
    split at h
    case h_2 => cases h
    rename_i k hk
    split at h
    case isFalse => cases h
    rename_i ha
    rw [Option.map_eq_some_iff] at h
    obtain ⟨cs', hf, rfl⟩ := h
    obtain ⟨vs', h1, h2, h3, h4⟩ := run_fill (us := us.toList) hf (by simpa using hl) (fun i hi => ⟨by simpa [List.getD_eq_getElem?_getD] using (hp i hi).1, by simpa [List.getD_eq_getElem?_getD] using (hp i hi).2, hval ha i hi⟩) hzl hzc
    refine ⟨.agg vs', ?_, .agg _ _ _ h2 h4⟩
    simp only [Instr.build, Sem.run_bind, hzr, Result.andThen_ok, run_underlying hu, Value.cells, run_szOf hk, h1, Sem.run_pure]
  · cases h

end Go.Abs
