/- Part 14 of the proof: AbsM2, AbsR4, AbsM3, AbsM4. -/
import Derived.Test.YtkeioaggjaeicaaGreatDoorHerrZ13
import Derived.DeepKeys3
namespace Go.Abs
open Go Go.MapKept

/-- Keys that are told by 'ek': the model finds them where they are equal. -/
def KeyE (P : Program) (kt : TypeId) {α : Type} [DecidableEq α] (ek : α → V) : Prop :=
  (∀ a, (ek a).closed = true) ∧
  (∀ (St : Nat → Prop) (w : World) (g : Gh) (a : α) (x : Value), Rel St w g (ek a) x → ∀ e, (Instr.checkKey e 10000 kt x).run P w = .ok () w) ∧
  (∀ (St : Nat → Prop) (w : World) (g : Gh) (a : α) (x : Value), Rel St w g (ek a) x → ∀ (l : List MapEntry) (ks : List α) (dk : α), l.length = ks.length → (∀ j, j < ks.length → Rel St w noGh (ek (ks.getD j dk)) (l.getD j default).key) → (Instr.findKey kt x l).run P w = .ok ((idxL a ks 0).map fun q => (q, (l.getD q default).val)) w) ∧
  (∀ (St : Nat → Prop) (w : World) (g g' : Gh) (a : α) (x y : Value), Rel St w g (ek a) x → Rel St w g' (ek a) y → (Instr.keyThatStays y x).run P w = .ok x w)

theorem idxL_lt {α : Type} [DecidableEq α] (x : α) : ∀ (l : List α) (i q : Nat), idxL x l i = some q → i ≤ q ∧ q < i + l.length ∧ ∀ d, l.getD (q - i) d = x
  | [], _, _, h => by cases h
  | a :: l, i, q, h => by
    simp only [idxL] at h
    split at h
    · rename_i he
      cases h
      refine ⟨Nat.le_refl _, by simp, fun d => ?_⟩
      rw [Nat.sub_self]
      exact he.symm
    · obtain ⟨h1, h2, h3⟩ := idxL_lt x l (i + 1) q h
      refine ⟨by omega, by simp only [List.length_cons]; omega, fun d => ?_⟩
      rw [show q - i = (q - (i + 1)) + 1 by omega, List.getD_cons_succ]
      exact h3 d

section
variable {P : Program} {kt : TypeId} {α : Type} [DecidableEq α] {ek : α → V}
theorem plain_same {St : Nat → Prop} {w : World} {g g' : Gh} {d : TypeDesc} {v : V} {x y : Value} (hk : keyOk d v = true) (hx : Rel St w g v x) (hy : Rel St w g' v y) : x = y := by
  unfold keyOk at hk
  split at hk
  · rw [hx.int_inv, hy.int_inv]
  · obtain ⟨s, rfl, h1⟩ := hx.str_inv
    obtain ⟨u, rfl, h2⟩ := hy.str_inv
    congr 1
    exact ByteArray.ext (Array.ext' (h1.trans h2.symm))
  · rw [hx.b16_inv, hy.b16_inv]
  · cases hk
theorem keyE_plain {d : TypeDesc} (hd : P.underlying kt = some d) (hk : ∀ a b, keyEq d (ek a) (ek b) = some (decide (a = b))) (hko : ∀ a, keyOk d (ek a) = true) (hc : ∀ a, (ek a).closed = true) : KeyE P kt ek := by
  refine ⟨hc, fun St w g a x hx e => run_checkKey hd (isKey_of (hko a) hx) e 9999, fun St w g a x hx l ks dk hl hr => ?_, fun St w g g' a x y hx hy => ?_⟩
  · obtain ⟨h1, _⟩ := run_findV hx ks.length 0 l (findV_list0 hk a dk ks) hl fun j hj => by simpa using hr j hj
    rw [run_findKey hd h1]
    simp
  · rw [plain_same (hko a) hx hy]
    exact run_keyThatStays (isKey_of (hko a) hy)

end
section
variable {P : Program} {α β : Type} [DecidableEq α]
/-- keys and values behind an assignment -/
def updK (ks : List α) (x : α) : List α := match idxL x ks 0 with
  | some _ => ks
  | none => ks ++ [x]
def updV (ks : List α) (vs : List β) (x : α) (y : β) : List β := match idxL x ks 0 with
  | some i => vs.set i y
  | none => vs ++ [y]
theorem getD_modify (es : Array MapEntry) (q : Nat) (f : MapEntry → MapEntry) (i : Nat) (hq : q < es.size) : (es.modify q f).getD i default = if i = q then f (es.getD q default) else es.getD i default := by
  by_cases h : i = q
  · subst h; simp [hq, Array.getElem_modify]
  · simp only [if_neg h, Array.getD_eq_getD_getElem?]
    rw [Array.getElem?_modify, if_neg (Ne.symm h)]
end
section
variable {P : Program} {α β : Type} [DecidableEq α]
/-- a map that is one's own, as a list of pairs -/
def bP (ek : α → V) (dk : α) (ev : β → V) (dv : β) (l : List (α × β)) : Blk := bM ek dk ev dv (l.map (·.1)) (l.map (·.2))
def hM (l : List (α × β)) (x : α) : Bool := l.any fun p => decide (x = p.1)
end
section
variable {P : Program} {α β : Type} [DecidableEq α]
end
section
variable {P : Program} {α β : Type} [DecidableEq α]
end
section
variable {P : Program} {α β : Type} [DecidableEq α]
end
theorem BLe.P {α β : Type} {ek : α → V} {dk : α} {ev : β → V} {dv : β} {l l' : List (α × β)} (h : l = l') : BLe (bP ek dk ev dv l) (bP ek dk ev dv l') := by rw [h]; exact .refl _
end Go.Abs
namespace Go.Abs
open Go
abbrev V.i (n : Int) : V := .int .i64 n
abbrev lZ {α : Type} (l : List α) : Int := ((l.length : Nat) : Int)
theorem idA (p : Prop) : p → p := fun h => h
theorem bqA (b w : Bool) : true = true → b = w → (b == w) = true := fun _ h => beq_iff_eq.2 h
section
variable {α : Type} {p q s t u : Prop} [Decidable p] [Decidable q] [Decidable s] [Decidable t] [Decidable u] {x : Option α} {r : α}
theorem ck2 (h : chk p (chk q x) = some r) : p ∧ q ∧ x = some r := by
  obtain ⟨a, h⟩ := chk_some h
  exact ⟨a, chk_some h⟩
theorem ck3 (h : chk p (chk q (chk s x)) = some r) : p ∧ q ∧ s ∧ x = some r := by
  obtain ⟨a, h⟩ := chk_some h
  exact ⟨a, ck2 h⟩
theorem ck4 (h : chk p (chk q (chk s (chk t x))) = some r) : p ∧ q ∧ s ∧ t ∧ x = some r := by
  obtain ⟨a, h⟩ := chk_some h
  exact ⟨a, ck3 h⟩
theorem ck5 (h : chk p (chk q (chk s (chk t (chk u x)))) = some r) : p ∧ q ∧ s ∧ t ∧ u ∧ x = some r := by
  obtain ⟨a, h⟩ := chk_some h
  exact ⟨a, ck4 h⟩
end
end Go.Abs
namespace Go.Abs
open Go
end Go.Abs
namespace Go.Abs
open Go Go.MapKept

section
variable {α β : Type}
/-- a map whose entries' slices are told by the family 'o'; entry 'ho' is out, its slice is held by 'hq' -/
def bI (ek : α → V) (dk : α) (ks : List α) (o ho hq : Option Nat) : Blk := .mapI ks.length (fun i => ek (ks.getD i dk)) o ho hq
/-- the entries' slices -/
def bF (e : TypeId) (sz : Nat) (enc : β → List V) (d : β) (vs : List (List β)) (ho : Option Nat) : Blk := .fam e sz vs.length (fun i => (vs.getD i []).length) (fun i => encF enc d (vs.getD i [])) ho
end
theorem bI_inv {α : Type} {St : Nat → Prop} {w : World} {g : Gh} {v : Value} {ek : α → V} {dk : α} {ks : List α} {o ho hq : Option Nat} (h : BlkOk St w g v (bI ek dk ks o ho hq)) :
    ∃ b es, v = .map (some b) ∧ w.heap[b]? = some (.map es ks.length) ∧ es.size = ks.length ∧ (∀ i, i < ks.length → (es.getD i default).born = i) ∧
      (∀ i, i < ks.length → Rel St w noGh (ek (ks.getD i dk)) (es.getD i default).key) ∧ (∀ r, o = some r → ∃ a, g r = some (.tuple a) ∧ a.size = ks.length ∧ ∀ i, i < ks.length → ho ≠ some i → a.getD i undef = (es.getD i default).val) ∧
      (∀ q, hq = some q → (∀ i, ho = some i → g q = some (es.getD i default).val) ∧ (ho = none → g q = some (.slice none 0 0))) := h
theorem bF_inv {β : Type} {St : Nat → Prop} {w : World} {g : Gh} {v : Value} {e : TypeId} {sz : Nat} {enc : β → List V} {d : β} {vs : List (List β)} {ho : Option Nat} (h : BlkOk St w g v (bF e sz enc d vs ho)) :
    ∃ a, v = .tuple a ∧ a.size = vs.length ∧ (∀ i, i < vs.length → ho ≠ some i → RowOk St w e sz (vs.getD i []).length (encF enc d (vs.getD i [])) (a.getD i undef)) ∧
      (∀ i, ho = some i → a.getD i undef = undef) ∧ (∀ i j k, i < vs.length → j < vs.length → i ≠ j → blockOf (a.getD i undef) = some k → blockOf (a.getD j undef) ≠ some k) := h
theorem getD_setA (a : Array Value) (i : Nat) (u : Value) (j : Nat) (hi : i < a.size) : (a.setIfInBounds i u).getD j undef = if j = i then u else a.getD j undef := by
  by_cases h : j = i
  · subst h; simp [hi]
  · rw [if_neg h]
    simp [Array.getElem?_setIfInBounds_ne (Ne.symm h)]
theorem getD_pushA (a : Array Value) (u : Value) (j : Nat) : (a.push u).getD j undef = if j = a.size then u else a.getD j undef := by
  by_cases h : j = a.size
  · subst h; simp
  · rw [if_neg h]
    simp [Array.getElem?_push, h]
theorem RowOk.to {St St' : Nat → Prop} {w w' : World} {e : TypeId} {sz n : Nat} {f : Nat → Nat → V} {v : Value} (h : RowOk St w e sz n f v) (hS : ∀ k, St k → St' k) (hw : ∀ k, St k → w'.heap[k]? = w.heap[k]?) (hb : ∀ k, blockOf v = some k → w'.heap[k]? = w.heap[k]?) : RowOk St' w' e sz n f v := by
  obtain ⟨xs, ho, h1, h2⟩ := h
  exact ⟨xs, ownsRow_heap ho hb, fun i j hi hj => (h1 i j hi hj).mono hS hw, h2⟩
theorem RowOk.block {St : Nat → Prop} {w : World} {e : TypeId} {sz n : Nat} {f : Nat → Nat → V} {v : Value} (h : RowOk St w e sz n f v) (k : Nat) : BlkIn v k ↔ blockOf v = some k := by
  obtain ⟨xs, ho, _⟩ := h
  exact ownsRow_in ho k
theorem RowOk.one {St : Nat → Prop} {w : World} {e : TypeId} {sz n : Nat} {f : Nat → Nat → V} {v : Value} (h : RowOk St w e sz n f v) : v.oneCell' = true := by
  obtain ⟨xs, ho, _⟩ := h
  rcases ho.2 with ⟨rfl, _⟩ | ⟨gg, cap, cur, rfl, _⟩ <;> rfl
theorem bL_row {β : Type} {St : Nat → Prop} {w : World} {g : Gh} {v : Value} {e : TypeId} {sz : Nat} {enc : β → List V} {d : β} {l : List β} : BlkOk St w g v (bL e sz enc d l) ↔ RowOk St w e sz l.length (encF enc d l) v := Iff.rfl
def holeA (a : Array Value) : Option Nat → Array Value
  | some i => a.setIfInBounds i undef
  | none => a
theorem row_nil {St : Nat → Prop} {w : World} {e : TypeId} {sz : Nat} {f : Nat → Nat → V} : RowOk St w e sz 0 f (.slice none 0 0) := ⟨[], World.ownsRow_nil w 0 e sz, fun i j hi => by omega, by simp⟩
theorem BLe.F {β : Type} {e : TypeId} {sz : Nat} {enc : β → List V} {d : β} {vs vs' : List (List β)} {ho : Option Nat} (h : vs = vs') : BLe (bF e sz enc d vs ho) (bF e sz enc d vs' ho) := by rw [h]; exact .refl _
theorem OpSpec.heap {P : Program} {op : Op} {ty : TypeId} {bk : List Nat} {h0 h0' : Heap} {args : List V} {r : V} {h1 : Heap} (h : OpSpec P op ty bk h0' args r h1) (hc : hcov h0 h0') : OpSpec P op ty bk h0 args r h1 :=
  fun o e1 e2 z ρ hW hr => h o e1 e2 z ρ (hW.less fun r b' hb' => by obtain ⟨b, h4, h5⟩ := hcov_get hc r b' hb'; exact ⟨b, h4, fun v hv => h5 _ _ _ _ hv⟩) hr
section
variable {P : Program} {α β : Type}
/-- 'make(map..)' -/
theorem makeI_spec (ek : α → V) (dk : α) (e : TypeId) (sz : Nat) (enc : β → List V) (d : β) (ty r r2 : Nat) (hne : r2 ≠ r) (t : TypeId) :
    OpSpec P (.makeMap t none) ty [] [] [] (.own r) [(r, bI ek dk [] (some r2) none none), (r2, bF e sz enc d [] none)] := by
  rintro o ho _ z ρ hW _
  obtain ⟨dst, op, ty0, pos, after, guard⟩ := o
  dsimp only at ho; subst ho
  let g1 := (z.g.set r (.map (some z.w.heap.size))).set r2 (.tuple #[])
  have g1r : g1 r = some (.map (some z.w.heap.size)) := by simp [g1, Gh.set, Ne.symm hne]
  have g12 : g1 r2 = some (.tuple #[]) := by simp [g1, Gh.set]
  have hw : ∀ k, k < z.w.heap.size → (z.w.alloc (.map #[] 0)).heap[k]? = z.w.heap[k]? := fun k hk => by first | exact heap_alloc_old z.w _ hk | exact heap_alloc_old z.w _ k hk
  have hget : ∀ q b, Heap.get [(r, bI ek dk [] (some r2) none none), (r2, bF e sz enc d [] none)] q = some b → (q = r ∧ b = bI ek dk [] (some r2) none none) ∨ (q = r2 ∧ b = bF e sz enc d [] none) := by
    intro q b h
    simp only [Heap.get] at h
    split at h
    · rename_i h1; cases h; exact .inl ⟨h1.symm, rfl⟩
    · split at h
      · rename_i h1; cases h; exact .inr ⟨h1.symm, rfl⟩
      · cases h
  have hno : ∀ k, BlkIn (.tuple #[]) k → False := fun k ⟨i, hi, _⟩ => by simp at hi
  refine ⟨_, .map (some z.w.heap.size), z.w.alloc (.map #[] 0), z.St, g1, ?_, .inl rfl, ?_, .own _ _ _ g1r rfl, fun k hk => by cases hk⟩
  · simp [execOp, Instr.makeMap, Result.andThen]
  · refine ⟨⟨hW.frm.os, hW.frm.tape, hW.frm.output, Nat.le_trans hW.frm.size (by simp), fun k hk hno => by rw [hw k (Nat.lt_of_lt_of_le hk hW.frm.size)]⟩, fun _ h => h, fun k hk => ⟨Nat.lt_of_lt_of_le (hW.st1 k hk).1 (by simp), (hW.st1 k hk).2⟩, ?_, ?_, ?_⟩
    · intro q b v hb hv k hk
      rcases hget q b hb with ⟨rfl, rfl⟩ | ⟨rfl, rfl⟩
      · rw [g1r] at hv; cases hv
        simp [BlkIn, blockOf] at hk; subst hk
        exact ⟨fun h => by have := (hW.st1 _ h).1; omega, .inr hW.frm.size⟩
      · rw [g12] at hv; cases hv; exact (hno k hk).elim
    · intro q b hb
      rcases hget q b hb with ⟨rfl, rfl⟩ | ⟨rfl, rfl⟩
      · refine ⟨_, g1r, z.w.heap.size, #[], rfl, heap_alloc_new z.w _, rfl, fun i hi => by simp at hi, fun i hi => by simp at hi, fun q hq => ?_, fun q hq => by cases hq⟩
        cases hq
        exact ⟨#[], g12, rfl, fun i hi => by simp at hi⟩
      · exact ⟨_, g12, #[], rfl, rfl, fun i hi => by simp at hi, fun i hi => (by cases hi), fun i j k hi => by simp at hi⟩
    · intro q q' b b' v v' hb hb' hv hv' hq k hk hk'
      rcases hget q b hb with ⟨rfl, rfl⟩ | ⟨rfl, rfl⟩
      · rcases hget q' b' hb' with ⟨rfl, rfl⟩ | ⟨rfl, rfl⟩
        · exact hq rfl
        · rw [g12] at hv'; cases hv'; exact hno k hk'
      · rw [g12] at hv; cases hv; exact hno k hk
end
section
variable {P : Program} {α β : Type} [DecidableEq α]
/-- An entry is taken out. -/
theorem lookI_spec {mt kt et : TypeId} (hm : P.underlying mt = some (.map kt et)) (ek : α → V) (hK : KeyE P kt ek) (dk : α) (e : TypeId) (sz : Nat) (enc : β → List V) (d : β) (hz : zeroV P et = some .nils) (m k : Operand) (ty r r2 q : Nat) (hne : r2 ≠ r) (hqr : q ≠ r) (hq2 : q ≠ r2) (ks : List α) (vs : List (List β)) (x : α) :
    OpSpec P (.lookup mt m k false) ty [r] [(r, bI ek dk ks (some r2) none none), (r2, bF e sz enc d vs none)] [.own r, ek x] (.own q)
      [(r, bI ek dk ks (some r2) (idxL x ks 0) (some q)), (r2, bF e sz enc d vs (idxL x ks 0)), (q, bL e sz enc d (getM ks vs [] [] x))] := by
  obtain ⟨hkc, hck, hfd, hst⟩ := hK
  rintro o ho _ z ρ hW hr
  obtain ⟨dst, op', ty0, pos, after, guard⟩ := o
  dsimp only at ho; subst ho
  obtain ⟨u, hg, hb⟩ := hW.ok r (bI ek dk ks (some r2) none none) (by simp [Heap.get])
  obtain ⟨b, es, rfl, ho, hn, hbn, hk, hv, _⟩ := bI_inv hb
  obtain ⟨a, hg2, has, hav⟩ := hv r2 rfl
  obtain ⟨u2, hg2', hb2⟩ := hW.ok r2 (bF e sz enc d vs none) (by simp [Heap.get, Ne.symm hne])
  rw [hg2] at hg2'; cases hg2'
  obtain ⟨a', hae, hvs, hrow, _, hdis⟩ := bF_inv hb2
  cases hae
  have h0 := hr 0 (by simp); have h1 := hr 1 (by simp)
  simp [Op.operands] at h0 h1
  have hm0 : ρ m = .map (some b) := by have := h0.own_inv; rw [hg] at this; simpa using this.symm
  have hfk := hfd z.St z.w z.g x (ρ k) h1 es.toList ks dk (by simpa using hn) fun j hj => by simpa [List.getD_eq_getElem?_getD] using hk j hj
  have hck' := hck z.St z.w z.g x (ρ k) h1 es.isEmpty
  obtain ⟨zz, hzr, _, hzrel⟩ := run_zeroV (P := P) (St := z.St) (w := z.w) (g := z.g) hz
  have hzz : zz = .slice none 0 0 := hzrel.nils_inv
  subst hzz
  have hlen : vs.length = ks.length := hvs.symm.trans has
  -- the entry's slice
  have main : ∀ (u : Value) (ho' : Option Nat) (row : List β), ho' = idxL x ks 0 → (∀ i, ho' = some i → i < ks.length ∧ u = a.getD i undef) → (ho' = none → u = .slice none 0 0) → RowOk z.St z.w e sz row.length (encF enc d row) u → row = getM ks vs [] [] x →
      (∀ i, ho' = some i → (es.getD i default).val = u) →
      (execOp ρ ⟨dst, .lookup mt m k false, ty0, pos, after, guard⟩).run P z.w = .ok (.value u) z.w →
      ∃ nx x' w' St' g', (execOp ρ ⟨dst, .lookup mt m k false, ty0, pos, after, guard⟩).run P z.w = .ok nx w' ∧ (nx = .value x' ∨ (nx = .skip ∧ x' = undef)) ∧ WSim z St' g' [(r, bI ek dk ks (some r2) (idxL x ks 0) (some q)), (r2, bF e sz enc d vs (idxL x ks 0)), (q, bL e sz enc d (getM ks vs [] [] x))] w' ∧ Rel St' w' g' (.own q) x' ∧ (∀ k, k ∈ [r] → g' k = z.g k) := by
    intro u ho' row he hi hnone hu hrw hval hrun
    rw [← he, ← hrw]
    let a1 : Array Value := holeA a ho'
    have ha1s : a1.size = ks.length := by
      cases ho' <;> simp [a1, holeA, has]
    have ha1 : ∀ j, a1.getD j undef = if ho' = some j then undef else a.getD j undef := by
      intro j
      cases ho' with
      | none => simp [a1, holeA]
      | some i =>
        show (a.setIfInBounds i undef).getD j undef = _
        rw [getD_setA _ _ _ _ (by rw [has]; exact (hi i rfl).1)]
        by_cases h : j = i
        · subst h; simp
        · rw [if_neg h, if_neg (by simpa using fun e => h e.symm)]
    let g1 := (z.g.set r2 (.tuple a1)).set q u
    have g1r : g1 r = some (.map (some b)) := by simp [g1, Gh.set, Ne.symm hqr, Ne.symm hne, hg]
    have g12 : g1 r2 = some (.tuple a1) := by simp [g1, Gh.set, Ne.symm hq2]
    have g1q : g1 q = some u := by simp [g1, Gh.set]
    have hget : ∀ p bl, Heap.get [(r, bI ek dk ks (some r2) ho' (some q)), (r2, bF e sz enc d vs ho'), (q, bL e sz enc d row)] p = some bl → (p = r ∧ bl = bI ek dk ks (some r2) ho' (some q)) ∨ (p = r2 ∧ bl = bF e sz enc d vs ho') ∨ (p = q ∧ bl = bL e sz enc d row) := by
      intro p bl h
      simp only [Heap.get] at h
      split at h
      · rename_i h1; cases h; exact .inl ⟨h1.symm, rfl⟩
      · split at h
        · rename_i h1; cases h; exact .inr (.inl ⟨h1.symm, rfl⟩)
        · split at h
          · rename_i h1; cases h; exact .inr (.inr ⟨h1.symm, rfl⟩)
          · cases h
    have in2 : ∀ k, BlkIn (.tuple a1) k → ∃ j, j < a.size ∧ ho' ≠ some j ∧ blockOf (a.getD j undef) = some k := by
      rintro k ⟨j, hj, hk⟩
      rw [ha1] at hk
      split at hk
      · cases hk
      · rename_i hne; exact ⟨j, by omega, hne, hk⟩
    have inq : ∀ k, BlkIn u k → ∃ j, j < a.size ∧ ho' = some j ∧ blockOf (a.getD j undef) = some k := by
      intro k hk
      rw [hu.block] at hk
      cases hho : ho' with
      | none => rw [hnone hho] at hk; cases hk
      | some i => obtain ⟨h2, h3⟩ := hi i hho; exact ⟨i, by omega, rfl, by rw [← h3]; exact hk⟩
    have ow2 : ∀ j k, j < a.size → blockOf (a.getD j undef) = some k → ¬ z.St k ∧ (z.Own k ∨ z.w.heap.size ≤ k) := fun j k hj hk => hW.ow r2 (bF e sz enc d vs none) _ (by simp [Heap.get, Ne.symm hne]) hg2 k ⟨j, hj, hk⟩
    have sep2 : ∀ j k, j < a.size → blockOf (a.getD j undef) = some k → BlkIn (.map (some b)) k → False := fun j k hj hk h => hW.sep r r2 (bI ek dk ks (some r2) none none) (bF e sz enc d vs none) _ _ (by simp [Heap.get]) (by simp [Heap.get, Ne.symm hne]) hg hg2 (Ne.symm hne) k h ⟨j, hj, hk⟩
    refine ⟨_, u, z.w, z.St, g1, hrun, .inl rfl, ⟨hW.frm, fun _ h => h, hW.st1, ?_, ?_, ?_⟩, .own _ _ _ g1q hu.one, fun p hp => by simp only [List.mem_singleton] at hp; subst hp; rw [g1r, hg]⟩
    · intro p bl v hbl hv k hk
      rcases hget p bl hbl with ⟨rfl, rfl⟩ | ⟨rfl, rfl⟩ | ⟨rfl, rfl⟩
      · rw [g1r] at hv; cases hv
        exact hW.ow p (bI ek dk ks (some r2) none none) _ (by simp [Heap.get]) hg k hk
      · rw [g12] at hv; cases hv
        obtain ⟨j, hj, _, h3⟩ := in2 k hk
        exact ow2 j k hj h3
      · rw [g1q] at hv; cases hv
        obtain ⟨j, hj, _, h3⟩ := inq k hk
        exact ow2 j k hj h3
    · intro p bl hbl
      rcases hget p bl hbl with ⟨rfl, rfl⟩ | ⟨rfl, rfl⟩ | ⟨rfl, rfl⟩
      · refine ⟨_, g1r, b, es, rfl, ho, hn, hbn, hk, fun r hr => ?_, fun r hr => ?_⟩
        · cases hr
          refine ⟨a1, g12, ha1s, fun i hi hx => ?_⟩
          rw [ha1, if_neg hx]
          exact hav i hi (by simp)
        · cases hr
          refine ⟨fun i hh => ?_, fun hh => ?_⟩
          · rw [g1q, hval i hh]
          · rw [g1q, hnone hh]
      · refine ⟨_, g12, a1, rfl, ha1s.trans hlen.symm, fun i hi hx => ?_, fun i hh => ?_, fun i j k hi hj hij h2 h3 => ?_⟩
        · rw [ha1, if_neg hx]; exact hrow i hi (by simp)
        · rw [ha1, if_pos hh]
        · rw [ha1] at h2 h3
          split at h2
          · cases h2
          · split at h3
            · cases h3
            · exact hdis i j k hi hj hij h2 h3
      · exact ⟨u, g1q, bL_row.2 hu⟩
    · intro p p' bl bl' v v' hbl hbl' hv hv' hpp k hk hk'
      rcases hget p bl hbl with ⟨rfl, rfl⟩ | ⟨rfl, rfl⟩ | ⟨rfl, rfl⟩ <;> rcases hget p' bl' hbl' with ⟨rfl, rfl⟩ | ⟨rfl, rfl⟩ | ⟨rfl, rfl⟩
      · exact hpp rfl
      · rw [g1r] at hv; rw [g12] at hv'; cases hv; cases hv'
        obtain ⟨j, hj, _, h3⟩ := in2 k hk'
        exact sep2 j k hj h3 hk
      · rw [g1r] at hv; rw [g1q] at hv'; cases hv; cases hv'
        obtain ⟨j, hj, _, h3⟩ := inq k hk'
        exact sep2 j k hj h3 hk
      · rw [g12] at hv; rw [g1r] at hv'; cases hv; cases hv'
        obtain ⟨j, hj, _, h3⟩ := in2 k hk
        exact sep2 j k hj h3 hk'
      · exact hpp rfl
      · rw [g12] at hv; rw [g1q] at hv'; cases hv; cases hv'
        obtain ⟨j, hj, h4, h3⟩ := in2 k hk
        obtain ⟨j', hj', h4', h3'⟩ := inq k hk'
        exact hdis j j' k (by omega) (by omega) (by rintro rfl; exact h4 h4') h3 h3'
      · rw [g1q] at hv; rw [g1r] at hv'; cases hv; cases hv'
        obtain ⟨j, hj, _, h3⟩ := inq k hk
        exact sep2 j k hj h3 hk'
      · rw [g1q] at hv; rw [g12] at hv'; cases hv; cases hv'
        obtain ⟨j, hj, h4, h3⟩ := in2 k hk'
        obtain ⟨j', hj', h4', h3'⟩ := inq k hk
        exact hdis j j' k (by omega) (by omega) (by rintro rfl; exact h4 h4') h3 h3'
      · exact hpp rfl
  cases hqx : idxL x ks 0 with
  | none =>
    rw [hqx] at hfk
    have hgm : getM ks vs [] [] x = [] := by simp [getM, hqx]
    rw [← hqx]
    refine main (.slice none 0 0) none [] hqx.symm (fun i hi => by cases hi) (fun _ => rfl) row_nil hgm.symm (fun i hi => by cases hi) ?_
    simp [execOp, Instr.lookup, run_underlying hm, hm0, MapKept.run_getObj_map ho, hck', hfk, hzr, Result.andThen]
  | some i =>
    rw [hqx] at hfk
    have hilt := (idxL_lt x ks 0 i hqx).2.1
    rw [Nat.zero_add] at hilt
    have hgm : getM ks vs [] [] x = vs.getD i [] := by simp [getM, hqx]
    have hai := hav i hilt (by simp)
    rw [← hqx]
    refine main (es.getD i default).val (some i) (vs.getD i []) hqx.symm (fun j hj => by cases hj; exact ⟨hilt, hai.symm⟩) (fun h => by cases h) (by rw [← hai]; exact hrow i (by omega) (by simp)) hgm.symm (fun j hj => by cases hj; rfl) ?_
    simp [execOp, Instr.lookup, run_underlying hm, hm0, MapKept.run_getObj_map ho, hck', hfk, Result.andThen]
/-- A slice of one's own becomes the entry that is out. -/
theorem updI_spec {mt kt et : TypeId} (hm : P.underlying mt = some (.map kt et)) (ek : α → V) (hK : KeyE P kt ek) (op : Op) (m k v : Operand) (hop : op = .insert mt m k v ∨ op = .mapUpdate mt m k v) (dk : α) (e : TypeId) (sz : Nat) (enc : β → List V) (d : β) (ty r r2 q : Nat) (hne : r2 ≠ r) (hqr : q ≠ r) (hq2 : q ≠ r2) (ks : List α) (vs : List (List β)) (hq : Option Nat) (x : α) (y : List β) :
    OpSpec P op ty [r] [(r, bI ek dk ks (some r2) (idxL x ks 0) hq), (r2, bF e sz enc d vs (idxL x ks 0)), (q, bL e sz enc d y)] [.own r, ek x, .own q] .any
      [(r, bI ek dk (updK ks x) (some r2) none none), (r2, bF e sz enc d (updV ks vs x y) none)] := by
  obtain ⟨hkc, hck, hfd, hst⟩ := hK
  rintro o ho _ z ρ hW hr
  obtain ⟨dst, op', ty0, pos, after, guard⟩ := o
  dsimp only at ho; subst ho
  have gr : Heap.get [(r, bI ek dk ks (some r2) (idxL x ks 0) hq), (r2, bF e sz enc d vs (idxL x ks 0)), (q, bL e sz enc d y)] r = some (bI ek dk ks (some r2) (idxL x ks 0) hq) := by simp [Heap.get]
  have gr2 : Heap.get [(r, bI ek dk ks (some r2) (idxL x ks 0) hq), (r2, bF e sz enc d vs (idxL x ks 0)), (q, bL e sz enc d y)] r2 = some (bF e sz enc d vs (idxL x ks 0)) := by simp [Heap.get, Ne.symm hne]
  have grq : Heap.get [(r, bI ek dk ks (some r2) (idxL x ks 0) hq), (r2, bF e sz enc d vs (idxL x ks 0)), (q, bL e sz enc d y)] q = some (bL e sz enc d y) := by simp [Heap.get, Ne.symm hqr, Ne.symm hq2]
  obtain ⟨u0, hg, hb⟩ := hW.ok r _ gr
  obtain ⟨b, es, rfl, ho, hn, hbn, hk, hv, _⟩ := bI_inv hb
  obtain ⟨a, hg2, has, hav⟩ := hv r2 rfl
  obtain ⟨u2, hg2', hb2⟩ := hW.ok r2 _ gr2
  rw [hg2] at hg2'; cases hg2'
  obtain ⟨a', hae, hvs, hrow, hhole, hdis⟩ := bF_inv hb2
  cases hae
  obtain ⟨u, hgq, hbq⟩ := hW.ok q _ grq
  have hu := bL_row.1 hbq
  have h0 := hr 0 (by simp); have h1 := hr 1 (by simp); have h2 := hr 2 (by simp)
  have hops : op'.operands.toList = [m, k, v] := by rcases hop with rfl | rfl <;> simp [Op.operands]
  rw [hops] at h0 h1 h2
  simp only [List.getD_cons_zero, List.getD_cons_succ] at h0 h1 h2
  have hm0 : ρ m = .map (some b) := by have := h0.own_inv; rw [hg] at this; simpa using this.symm
  have hv0 : ρ v = u := by have := h2.own_inv; rw [hgq] at this; simpa using this.symm
  have hfk := hfd z.St z.w z.g x (ρ k) h1 es.toList ks dk (by simpa using hn) fun j hj => by simpa [List.getD_eq_getElem?_getD] using hk j hj
  have hck' := hck z.St z.w z.g x (ρ k) h1 false
  have hlt := (Array.getElem?_eq_some_iff.1 ho).1
  have hlen : vs.length = ks.length := hvs.symm.trans has
  have hStb : ¬ z.St b := (hW.ow r _ _ gr hg b rfl).1
  have ow2 : ∀ j k, j < a.size → blockOf (a.getD j undef) = some k → ¬ z.St k ∧ (z.Own k ∨ z.w.heap.size ≤ k) := fun j k hj hk => hW.ow r2 _ _ gr2 hg2 k ⟨j, hj, hk⟩
  have owq : ∀ k, blockOf u = some k → ¬ z.St k ∧ (z.Own k ∨ z.w.heap.size ≤ k) := fun k hk => hW.ow q _ _ grq hgq k ((hu.block k).2 hk)
  have sep2 : ∀ j k, j < a.size → blockOf (a.getD j undef) = some k → k ≠ b := fun j k hj hk e => hW.sep r r2 _ _ _ _ gr gr2 hg hg2 (Ne.symm hne) b rfl ⟨j, hj, e ▸ hk⟩
  have sepq : ∀ k, blockOf u = some k → k ≠ b := fun k hk e => hW.sep r q _ _ _ _ gr grq hg hgq (Ne.symm hqr) b rfl ((hu.block b).2 (e ▸ hk))
  have sep2q : ∀ j k, j < a.size → blockOf (a.getD j undef) = some k → blockOf u = some k → False := fun j k hj hk h => hW.sep r2 q _ _ _ _ gr2 grq hg2 hgq (Ne.symm hq2) k ⟨j, hj, hk⟩ ((hu.block k).2 h)
  have fin : ∀ (es' : Array MapEntry) (ks' : List α) (vs' : List (List β)) (a' : Array Value), es'.size = ks'.length → vs'.length = ks'.length → a'.size = ks'.length →
      (execOp ρ ⟨dst, op', ty0, pos, after, guard⟩).run P z.w = .ok .skip { z.w with heap := z.w.heap.setIfInBounds b (.map es' ks'.length) } →
      (∀ i, i < ks'.length → (es'.getD i default).born = i) → (∀ i, i < ks'.length → Rel z.St z.w noGh (ek (ks'.getD i dk)) (es'.getD i default).key) → (∀ i, i < ks'.length → a'.getD i undef = (es'.getD i default).val) →
      (∀ i, i < ks'.length → RowOk z.St z.w e sz (vs'.getD i []).length (encF enc d (vs'.getD i [])) (a'.getD i undef)) →
      (∀ i k, i < ks'.length → blockOf (a'.getD i undef) = some k → (∃ j, j < a.size ∧ blockOf (a.getD j undef) = some k) ∨ blockOf u = some k) →
      (∀ i j k, i < ks'.length → j < ks'.length → i ≠ j → blockOf (a'.getD i undef) = some k → blockOf (a'.getD j undef) ≠ some k) →
      ∃ nx x w' St' g', (execOp ρ ⟨dst, op', ty0, pos, after, guard⟩).run P z.w = .ok nx w' ∧ (nx = .value x ∨ nx = .skip ∧ x = undef) ∧ WSim z St' g' [(r, bI ek dk ks' (some r2) none none), (r2, bF e sz enc d vs' none)] w' ∧ Rel St' w' g' .any x ∧ ∀ p, p ∈ [r] → g' p = z.g p := by
    intro es' ks' vs' a' hsz hlv hla hrun hbn' hk' hav' hrow' hblk hdis'
    let w' : World := { z.w with heap := z.w.heap.setIfInBounds b (.map es' ks'.length) }
    have hget : ∀ q, q ≠ b → w'.heap[q]? = z.w.heap[q]? := fun q hq => by simp [w', Array.getElem?_setIfInBounds_ne (Ne.symm hq)]
    have hStw : ∀ q, z.St q → w'.heap[q]? = z.w.heap[q]? := fun q hq => hget q fun e => hStb (e ▸ hq)
    let g1 := z.g.set r2 (.tuple a')
    have g1r : g1 r = some (.map (some b)) := by simp [g1, Gh.set, Ne.symm hne, hg]
    have g12 : g1 r2 = some (.tuple a') := by simp [g1, Gh.set]
    have hgt : ∀ p bl, Heap.get [(r, bI ek dk ks' (some r2) none none), (r2, bF e sz enc d vs' none)] p = some bl → (p = r ∧ bl = bI ek dk ks' (some r2) none none) ∨ (p = r2 ∧ bl = bF e sz enc d vs' none) := by
      intro p bl h
      simp only [Heap.get] at h
      split at h
      · rename_i h1; cases h; exact .inl ⟨h1.symm, rfl⟩
      · split at h
        · rename_i h1; cases h; exact .inr ⟨h1.symm, rfl⟩
        · cases h
    have neb : ∀ i k, i < ks'.length → blockOf (a'.getD i undef) = some k → k ≠ b := fun i k hi hk => by
      rcases hblk i k hi hk with ⟨j, hj, h⟩ | h
      · exact sep2 j k hj h
      · exact sepq k h
    refine ⟨_, undef, w', z.St, g1, hrun, .inr ⟨rfl, rfl⟩, ⟨⟨hW.frm.os, hW.frm.tape, hW.frm.output, by simp [w'], fun k hk hno => ?_⟩, fun _ h => h, fun k hk => ⟨by simp only [w', Array.size_setIfInBounds]; exact (hW.st1 k hk).1, (hW.st1 k hk).2⟩, ?_, ?_, ?_⟩, .any _ _, fun p hp => by simp only [List.mem_singleton] at hp; subst hp; rw [g1r, hg]⟩
    · refine hget k fun e => ?_
      subst e
      rcases (hW.ow r _ _ gr hg k rfl).2 with h | h
      · exact hno h
      · omega
    · intro p bl vv hbl hv k hk
      rcases hgt p bl hbl with ⟨rfl, rfl⟩ | ⟨rfl, rfl⟩
      · rw [g1r] at hv; cases hv
        exact hW.ow p _ _ gr hg k hk
      · rw [g12] at hv; cases hv
        obtain ⟨i, hi, h3⟩ := hk
        rcases hblk i k (by omega) h3 with ⟨j, hj, h⟩ | h
        · exact ow2 j k hj h
        · exact owq k h
    · intro p bl hbl
      rcases hgt p bl hbl with ⟨rfl, rfl⟩ | ⟨rfl, rfl⟩
      · refine ⟨_, g1r, b, es', rfl, by simp [w', hlt], hsz, hbn', fun i hi => (hk' i hi).mono (fun _ h => h) hStw, fun p hp => ?_, fun p hp => by cases hp⟩
        cases hp
        exact ⟨a', g12, hla, fun i hi _ => hav' i hi⟩
      · exact ⟨_, g12, a', rfl, hla.trans hlv.symm, fun i hi _ => (hrow' i (by omega)).to (fun _ h => h) hStw (fun k hk => hget k (neb i k (by omega) hk)), fun i hi => (by cases hi), fun i j k hi hj => hdis' i j k (by omega) (by omega)⟩
    · intro p p' bl bl' v1 v2 hbl hbl' hv hv' hpp k hk hk'
      rcases hgt p bl hbl with ⟨rfl, rfl⟩ | ⟨rfl, rfl⟩ <;> rcases hgt p' bl' hbl' with ⟨rfl, rfl⟩ | ⟨rfl, rfl⟩
      · exact hpp rfl
      · rw [g1r] at hv; rw [g12] at hv'; cases hv; cases hv'
        obtain ⟨i, hi, h3⟩ := hk'
        simp [BlkIn, blockOf] at hk
        exact neb i k (by omega) h3 hk.symm
      · rw [g12] at hv; rw [g1r] at hv'; cases hv; cases hv'
        obtain ⟨i, hi, h3⟩ := hk
        simp [BlkIn, blockOf] at hk'
        exact neb i k (by omega) h3 hk'.symm
      · exact hpp rfl
  unfold updK updV
  cases hqx : idxL x ks 0 with
  | none =>
    rw [hqx] at hfk
    dsimp only
    have hrun : (execOp ρ ⟨dst, op', ty0, pos, after, guard⟩).run P z.w = .ok .skip { z.w with heap := z.w.heap.setIfInBounds b (.map (es.push ⟨ρ k, ρ v, ks.length⟩) (ks ++ [x]).length) } := by
      have : (Instr.mapUpdate mt (ρ m) (ρ k) (ρ v)).run P z.w = .ok () { z.w with heap := z.w.heap.setIfInBounds b (.map (es.push ⟨ρ k, ρ v, ks.length⟩) (ks.length + 1)) } := by
        simp [Instr.mapUpdate, run_underlying hm, hm0, MapKept.run_getObj_map ho, hck', hfk, run_setObj_map _ ho, Result.andThen]
      rw [List.length_append, List.length_singleton]
      rcases hop with rfl | rfl <;> simp [execOp, this]
    have hvp : ∀ i, (a.push u).getD i undef = if i = a.size then u else a.getD i undef := getD_pushA a u
    refine fin _ (ks ++ [x]) (vs ++ [y]) (a.push u) (by simp [hn]) (by simp [hlen]) (by simp [has]) hrun (fun i hi => ?_) (fun i hi => ?_) (fun i hi => ?_) (fun i hi => ?_) (fun i k hi h => ?_) (fun i j k hi hj hij h3 => ?_)
    · rw [getD_push]
      simp only [List.length_append, List.length_singleton] at hi
      split
      · rename_i h; rw [h, hn]
      · exact hbn i (by omega)
    · rw [getD_push]
      simp only [List.length_append, List.length_singleton] at hi
      split
      · rename_i h
        rw [h, hn]
        have e : (ks ++ [x]).getD ks.length dk = x := by simp [List.getD_eq_getElem?_getD]
        rw [e]
        exact h1.closed (hkc x) noGh
      · have e : (ks ++ [x]).getD i dk = ks.getD i dk := by
          have : i < ks.length := by omega
          simp [List.getD_eq_getElem?_getD, List.getElem?_append, this]
        rw [e]
        exact hk i (by omega)
    · simp only [List.length_append, List.length_singleton] at hi
      rw [getD_push, hvp]
      by_cases h : i = ks.length
      · rw [if_pos (by omega), if_pos (by omega)]; exact hv0.symm
      · rw [if_neg (by omega), if_neg (by omega)]
        exact hav i (by omega) (by rw [hqx]; simp)
    · simp only [List.length_append, List.length_singleton] at hi
      rw [hvp]
      by_cases h : i = ks.length
      · rw [if_pos (by omega)]
        have e : (vs ++ [y]).getD i [] = y := by rw [h, ← hlen]; simp [List.getD_eq_getElem?_getD]
        rw [e]; exact hu
      · rw [if_neg (by omega)]
        have e : (vs ++ [y]).getD i [] = vs.getD i [] := by
          have : i < vs.length := by omega
          simp [List.getD_eq_getElem?_getD, List.getElem?_append, this]
        rw [e]; exact hrow i (by omega) (by rw [hqx]; simp)
    · simp only [List.length_append, List.length_singleton] at hi
      rw [hvp] at h
      split at h
      · exact .inr h
      · exact .inl ⟨i, by omega, h⟩
    · simp only [List.length_append, List.length_singleton] at hi hj
      rw [hvp] at h3 ⊢
      split at h3
      · rw [if_neg (by omega)]
        exact fun h4 => sep2q j k (by omega) h4 h3
      · split
        · exact fun h4 => sep2q i k (by omega) h3 h4
        · exact hdis i j k (by omega) (by omega) hij h3
  | some i0 =>
    rw [hqx] at hfk
    dsimp only
    obtain ⟨_, hqlt, hqe⟩ := idxL_lt x ks 0 i0 hqx
    rw [Nat.zero_add] at hqlt
    have hq' : i0 < es.size := by omega
    have hkq : Rel z.St z.w noGh (ek x) (es.getD i0 default).key := by
      have := hk i0 hqlt
      have e := hqe dk
      rw [Nat.sub_zero] at e
      rwa [e] at this
    have hs := hst z.St z.w z.g noGh x (ρ k) _ h1 hkq
    have ekey : (es[i0]?.map (·.key)).getD (ρ k) = (es.getD i0 default).key := by simp [hq']
    have hrun : (execOp ρ ⟨dst, op', ty0, pos, after, guard⟩).run P z.w = .ok .skip { z.w with heap := z.w.heap.setIfInBounds b (.map (es.modify i0 fun e => { e with key := ρ k, val := ρ v }) ks.length) } := by
      have : (Instr.mapUpdate mt (ρ m) (ρ k) (ρ v)).run P z.w = .ok () { z.w with heap := z.w.heap.setIfInBounds b (.map (es.modify i0 fun e => { e with key := ρ k, val := ρ v }) ks.length) } := by
        simp only [Instr.mapUpdate, Sem.run_bind, run_underlying hm, hm0, MapKept.run_getObj_map ho, hck', hfk, Result.andThen_ok, Option.map_some, ekey, hs, run_setObj_map _ ho]
      rcases hop with rfl | rfl <;> simp [execOp, this]
    have hvp : ∀ i, (a.setIfInBounds i0 u).getD i undef = if i = i0 then u else a.getD i undef := fun i => getD_setA a i0 u i (by omega)
    refine fin _ ks (vs.set i0 y) (a.setIfInBounds i0 u) (by simp [hn]) (by simp [hlen]) (by simp [has]) hrun (fun i hi => ?_) (fun i hi => ?_) (fun i hi => ?_) (fun i hi => ?_) (fun i k hi h => ?_) (fun i j k hi hj hij h3 => ?_)
    · rw [getD_modify es i0 _ i hq']
      split
      · rename_i h
        subst h
        have := hbn i hi
        simpa [hq'] using this
      · exact hbn i hi
    · rw [getD_modify es i0 _ i hq']
      split
      · rename_i h
        subst h
        have e := hqe dk
        rw [Nat.sub_zero] at e
        rw [e]
        exact h1.closed (hkc x) noGh
      · exact hk i hi
    · rw [getD_modify es i0 _ i hq', hvp]
      by_cases h : i = i0
      · rw [if_pos h, if_pos h]; exact hv0.symm
      · rw [if_neg h, if_neg h]
        exact hav i hi (by rw [hqx]; simpa using fun e => h e.symm)
    · rw [hvp]
      by_cases h : i = i0
      · subst h
        rw [if_pos rfl]
        have e : (vs.set i y).getD i [] = y := by
          have : i < vs.length := by omega
          simp [List.getD_eq_getElem?_getD, this]
        rw [e]; exact hu
      · rw [if_neg h]
        have e : (vs.set i0 y).getD i [] = vs.getD i [] := by
          simp [List.getD_eq_getElem?_getD, List.getElem?_set_ne (Ne.symm h)]
        rw [e]; exact hrow i (by omega) (by rw [hqx]; simpa using fun e => h e.symm)
    · rw [hvp] at h
      split at h
      · exact .inr h
      · exact .inl ⟨i, by omega, h⟩
    · rw [hvp] at h3 ⊢
      split at h3
      · rw [if_neg (by omega)]
        exact fun h4 => sep2q j k (by omega) h4 h3
      · split
        · exact fun h4 => sep2q i k (by omega) h3 h4
        · exact hdis i j k (by omega) (by omega) hij h3
/-- The entry that is out is put in again as it was. -/
theorem Le.putI {s : S} (r r2 q : Nat) {ek : α → V} {dk : α} {e : TypeId} {sz : Nat} {enc : β → List V} {d : β} {ks : List α} {vs : List (List β)} {x : α} {y : List β}
    (hr : s.h.get r = some (bI ek dk ks (some r2) (idxL x ks 0) (some q))) (hr2 : s.h.get r2 = some (bF e sz enc d vs (idxL x ks 0))) (hq : s.h.get q = some (bL e sz enc d y)) (hy : y = getM ks vs [] [] x)
    (hf : (!s.b.contains r2 && !s.b.contains q && !(r2 == r) && !(q == r) && !(q == r2)) = true) :
    Le s ⟨s.N, tdrop r2 s.t, (r, bI ek dk ks (some r2) none none) :: (r2, bF e sz enc d vs none) :: (((hdrop r2 s.h).del q).del r2).del r, s.b, s.o⟩ := by
  rintro z a0 w ⟨St, g, hW, hT, hK⟩
  simp only [Bool.and_eq_true, Bool.not_eq_true', beq_eq_false_iff_ne, List.contains_eq_mem, decide_eq_false_iff_not] at hf
  obtain ⟨⟨⟨⟨hb2, hbq⟩, hne⟩, hqr⟩, hq2⟩ := hf
  obtain ⟨u0, hg, hb⟩ := hW.ok r _ hr
  obtain ⟨b, es, rfl, ho, hn, hbn, hk, hv, hp⟩ := bI_inv hb
  obtain ⟨a, hg2, has, hav⟩ := hv r2 rfl
  obtain ⟨hp1, hp2⟩ := hp q rfl
  obtain ⟨u2, hg2', hbk2⟩ := hW.ok r2 _ hr2
  rw [hg2] at hg2'; cases hg2'
  obtain ⟨a', hae, hvs, hrow, hhole, hdis⟩ := bF_inv hbk2
  cases hae
  obtain ⟨u, hgq, hbkq⟩ := hW.ok q _ hq
  have hu := bL_row.1 hbkq
  have hlen : vs.length = ks.length := hvs.symm.trans has
  have sep2q : ∀ j k, j < a.size → blockOf (a.getD j undef) = some k → blockOf u = some k → False := fun j k hj hk h => hW.sep r2 q _ _ _ _ hr2 hq hg2 hgq (Ne.symm hq2) k ⟨j, hj, hk⟩ ((hu.block k).2 h)
  -- the whole family
  obtain ⟨a1, ha1s, ha1, hblk⟩ : ∃ a1 : Array Value, a1.size = ks.length ∧ (∀ i, i < ks.length → a1.getD i undef = (es.getD i default).val ∧ RowOk St w e sz (vs.getD i []).length (encF enc d (vs.getD i [])) (a1.getD i undef)) ∧
      (∀ i, i < ks.length → (idxL x ks 0 = some i ∧ a1.getD i undef = u) ∨ (idxL x ks 0 ≠ some i ∧ a1.getD i undef = a.getD i undef)) := by
    cases hx : idxL x ks 0 with
    | none =>
      exact ⟨a, has, fun i hi => ⟨hav i hi (by rw [hx]; simp), hrow i (by omega) (by rw [hx]; simp)⟩, fun i hi => .inr ⟨by simp, rfl⟩⟩
    | some i0 =>
      have hi0 := (idxL_lt x ks 0 i0 hx).2.1
      rw [Nat.zero_add] at hi0
      have hval := hp1 i0 hx
      rw [hgq] at hval
      have hval : u = (es.getD i0 default).val := by simpa using hval
      have hgm : y = vs.getD i0 [] := by rw [hy]; simp [getM, hx]
      refine ⟨a.setIfInBounds i0 u, by simp [has], fun i hi => ?_, fun i hi => ?_⟩
      · rw [getD_setA a i0 u i (by omega)]
        by_cases h : i = i0
        · subst h
          rw [if_pos rfl]
          exact ⟨hval, by rw [← hgm]; exact hu⟩
        · rw [if_neg h]
          have h5 : idxL x ks 0 ≠ some i := by rw [hx]; simpa using fun e => h e.symm
          exact ⟨hav i hi h5, hrow i (by omega) h5⟩
      · rw [getD_setA a i0 u i (by omega)]
        by_cases h : i = i0
        · subst h; exact .inl ⟨rfl, by rw [if_pos rfl]⟩
        · rw [if_neg h]; exact .inr ⟨by simpa using fun e => h e.symm, rfl⟩
  have own1 : ∀ i k, i < ks.length → blockOf (a1.getD i undef) = some k → (∃ j, j < a.size ∧ blockOf (a.getD j undef) = some k) ∨ blockOf u = some k := fun i k hi hk => by
    rcases hblk i hi with ⟨_, h⟩ | ⟨_, h⟩
    · rw [h] at hk; exact .inr hk
    · rw [h] at hk; exact .inl ⟨i, by omega, hk⟩
  let g1 := g.set r2 (.tuple a1)
  have g1ne : ∀ k, k ≠ r2 → g1 k = g k := fun k hk => Gh.set_ne hk
  have g1r : g1 r = some (.map (some b)) := by rw [g1ne r (Ne.symm hne)]; exact hg
  have g12 : g1 r2 = some (.tuple a1) := by simp [g1, Gh.set]
  have hget : ∀ p bl, Heap.get ((r, bI ek dk ks (some r2) none none) :: (r2, bF e sz enc d vs none) :: (((hdrop r2 s.h).del q).del r2).del r) p = some bl →
      (p = r ∧ bl = bI ek dk ks (some r2) none none) ∨ (p = r2 ∧ bl = bF e sz enc d vs none) ∨ (p ≠ r ∧ p ≠ r2 ∧ p ≠ q ∧ ∃ b0, s.h.get p = some b0 ∧ bl = b0.drop r2) := by
    intro p bl h
    simp only [Heap.get] at h
    split at h
    · rename_i h1; cases h; exact .inl ⟨h1.symm, rfl⟩
    · rename_i h1
      split at h
      · rename_i h2; cases h; exact .inr (.inl ⟨h2.symm, rfl⟩)
      · rename_i h2
        rw [Heap.get_del, if_neg (Ne.symm h1), Heap.get_del, if_neg (Ne.symm h2), Heap.get_del] at h
        split at h
        · cases h
        · rename_i h3
          rw [get_hdrop, Option.map_eq_some_iff] at h
          obtain ⟨b0, h4, rfl⟩ := h
          exact .inr (.inr ⟨Ne.symm h1, Ne.symm h2, h3, b0, h4, rfl⟩)
  refine ⟨St, g1, ⟨hW.frm, hW.st0, hW.st1, ?_, ?_, ?_⟩, hT.drop (fun _ _ => rfl) g1ne, hK.to (fun _ h => h) (fun _ _ => rfl) rfl fun p hp => g1ne p fun e => hb2 (e ▸ hp)⟩
  · intro p bl v hbl hv' k hk'
    rcases hget p bl hbl with ⟨rfl, rfl⟩ | ⟨rfl, rfl⟩ | ⟨h1, h2, h3, b0, h4, rfl⟩
    · rw [g1r] at hv'; cases hv'; exact hW.ow p _ _ hr hg k hk'
    · rw [g12] at hv'; cases hv'
      obtain ⟨i, hi, h5⟩ := hk'
      rcases own1 i k (by omega) h5 with ⟨j, hj, h6⟩ | h6
      · exact hW.ow p _ _ hr2 hg2 k ⟨j, hj, h6⟩
      · exact hW.ow q _ _ hq hgq k ((hu.block k).2 h6)
    · rw [g1ne p h2] at hv'; exact hW.ow p b0 v h4 hv' k hk'
  · intro p bl hbl
    rcases hget p bl hbl with ⟨rfl, rfl⟩ | ⟨rfl, rfl⟩ | ⟨h1, h2, h3, b0, h4, rfl⟩
    · refine ⟨_, g1r, b, es, rfl, ho, hn, hbn, hk, fun r hr => ?_, fun r hr => by cases hr⟩
      cases hr
      exact ⟨a1, g12, ha1s, fun i hi _ => (ha1 i hi).1⟩
    · refine ⟨_, g12, a1, rfl, ha1s.trans hlen.symm, fun i hi _ => (ha1 i (by omega)).2, fun i hi => (by cases hi), fun i j k hi hj hij h5 h6 => ?_⟩
      rcases hblk i (by omega) with ⟨e1, e2⟩ | ⟨e1, e2⟩ <;> rcases hblk j (by omega) with ⟨e3, e4⟩ | ⟨e3, e4⟩ <;> rw [e2] at h5 <;> rw [e4] at h6
      · rw [e1] at e3; cases e3; exact hij rfl
      · exact sep2q j k (by omega) h6 h5
      · exact sep2q i k (by omega) h5 h6
      · exact hdis i j k hi hj hij h5 h6
    · obtain ⟨v, hv1, hok⟩ := hW.ok p b0 h4
      exact ⟨v, by rw [g1ne p h2]; exact hv1, hok.dropG g1ne⟩
  · intro p p' bl bl' v v' hbl hbl' hv1 hv2 hpp k hk1 hk2
    have sepx : ∀ p b0, p ≠ r2 → p ≠ q → s.h.get p = some b0 → ∀ v, g p = some v → ∀ k, BlkIn v k → BlkIn (.tuple a1) k → False := by
      rintro p b0 h2 h3 h4 v hv k hk1 ⟨i, hi, h5⟩
      rcases own1 i k (by omega) h5 with ⟨j, hj, h6⟩ | h6
      · exact hW.sep p r2 _ _ _ _ h4 hr2 hv hg2 h2 k hk1 ⟨j, hj, h6⟩
      · exact hW.sep p q _ _ _ _ h4 hq hv hgq h3 k hk1 ((hu.block k).2 h6)
    rcases hget p bl hbl with ⟨rfl, rfl⟩ | ⟨rfl, rfl⟩ | ⟨h1, h2, h3, b0, h4, rfl⟩ <;> rcases hget p' bl' hbl' with ⟨rfl, rfl⟩ | ⟨rfl, rfl⟩ | ⟨h1', h2', h3', b0', h4', rfl⟩
    · exact hpp rfl
    · rw [g1r] at hv1; rw [g12] at hv2; cases hv1; cases hv2
      exact sepx p _ (Ne.symm hne) (Ne.symm hqr) hr _ hg k hk1 hk2
    · rw [g1r] at hv1; rw [g1ne p' h2'] at hv2; cases hv1
      exact hW.sep p p' _ _ _ _ hr h4' hg hv2 hpp k hk1 hk2
    · rw [g12] at hv1; rw [g1r] at hv2; cases hv1; cases hv2
      exact sepx p' _ (Ne.symm hne) (Ne.symm hqr) hr _ hg k hk2 hk1
    · exact hpp rfl
    · rw [g12] at hv1; rw [g1ne p' h2'] at hv2; cases hv1
      exact sepx p' _ h2' h3' h4' _ hv2 k hk2 hk1
    · rw [g1ne p h2] at hv1; rw [g1r] at hv2; cases hv2
      exact hW.sep p p' _ _ _ _ h4 hr hv1 hg hpp k hk1 hk2
    · rw [g1ne p h2] at hv1; rw [g12] at hv2; cases hv2
      exact sepx p _ h2 h3 h4 _ hv1 k hk1 hk2
    · rw [g1ne p h2] at hv1; rw [g1ne p' h2'] at hv2
      exact hW.sep p p' _ _ _ _ h4 h4' hv1 hv2 hpp k hk1 hk2
end
end Go.Abs
