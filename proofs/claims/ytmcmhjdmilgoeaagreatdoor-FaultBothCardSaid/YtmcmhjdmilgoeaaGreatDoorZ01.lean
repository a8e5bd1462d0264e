/- Part 1 of the proof: AbsA, AbsB, AbsC, AbsD, AbsE, AbsF, AbsG, AbsH, AbsI, AbsJ, AbsK, AbsL, AbsM, AbsN. -/
import Derived.Laws.AppendOwn
import Derived.Laws.Rows
import Derived.Laws.CopyRow
import Derived.Tactics2
import Derived.RowKit3
import Derived.Laws.Strings
import Derived.Laws.Entries
import Derived.IntWalk
import Derived.Laws.Cells
import Derived.Laws.Slices
import Derived.Laws.StructEq
import Derived.Laws.BytesString
import Derived.Lib.MinMax
import Derived.Laws.MakeOwn
import Derived.Laws.OwnMore
import Derived.Lib.AppendZerosOnto
import Derived.Sort.LoopGhostIn
import Derived.OrdersIn
import Derived.RangeFuncCalls
import Derived.RangeFuncRecord
import Derived.KernelRfl
namespace Go.Abs
open Go

/-- Values without memory. -/
inductive V where
  | any
  | bool (b : Bool)
  | int (k : IntKind) (n : Int)
  | b16 (x : BitVec 16)
  | str (l : List UInt8)
  | agg (cs : List V)
  | tup (vs : List V)
  | nils
  | arr (sz n : Nat) (f : Nat → Nat → V)
  | elem (sz n : Nat) (f : Nat → Nat → V) (i off : Nat)
  | own (r : Nat)
  | ptr (r off : Nat)
  | oelem (r sz i off : Nat)
  | osl (r sz i off : Nat)
  | fn (f : Fn) (caps : List V)
  | lit (v : Value)
  | opt (c : Bool) (v : V)
  | abool (p : Bool → Prop)
  | mp (n : Nat) (kf vf : Nat → V)

abbrev Gh := Nat → Option Value
def noGh : Gh := fun _ => none

/-- 'v' stands for the Go value 'x' in world 'w': memory that is read lies in the stable blocks 'St', the call's own in 'g'. -/
inductive Rel (St : Nat → Prop) (w : World) : Gh → V → Value → Prop where
  | any (g : Gh) (x : Value) : Rel St w g .any x
  | bool (g : Gh) (b : Bool) : Rel St w g (.bool b) (.bool b)
  | int (g : Gh) (k : IntKind) (n : Int) : Rel St w g (.int k n) (.int k n)
  | b16 (g : Gh) (x : BitVec 16) : Rel St w g (.b16 x) (.int .u16 (x.toNat : Int))
  | str (g : Gh) (l : List UInt8) (s : ByteArray) (h : s.data.toList = l) : Rel St w g (.str l) (.string s)
  | agg (g : Gh) (cs : List V) (vs : Array Value) (hl : vs.size = cs.length)
      (h : ∀ i, i < cs.length → Rel St w g (cs.getD i .any) (vs.getD i undef)) : Rel St w g (.agg cs) (.agg vs)
  | tup (g : Gh) (cs : List V) (vs : Array Value) (hl : vs.size = cs.length)
      (h : ∀ i, i < cs.length → Rel St w g (cs.getD i .any) (vs.getD i undef)) : Rel St w g (.tup cs) (.tuple vs)
  | nils (g : Gh) : Rel St w g .nils (.slice none 0 0)
  | arr0 (g : Gh) (sz : Nat) (f : Nat → Nat → V) : Rel St w g (.arr sz 0 f) (.slice none 0 0)
  | arr (g : Gh) (sz n : Nat) (f : Nat → Nat → V) (b o cap : Nat) (x : Nat → Nat → Value) (hcap : n ≤ cap) (hmax : n ≤ maxLen) (hs : 0 < n → 0 < sz → St b)
      (hc : ∀ i j, i < n → j < sz → w.cell? ⟨b, o + i * sz + j, none⟩ = some (x i j))
      (h1 : ∀ i j, i < n → j < sz → (x i j).oneCell' = true)
      (hr : ∀ i j, i < n → j < sz → Rel St w noGh (f i j) (x i j)) : Rel St w g (.arr sz n f) (.slice (some ⟨b, o, none⟩) n cap)
  | elem (g : Gh) (sz n : Nat) (f : Nat → Nat → V) (i off b o : Nat) (x : Nat → Nat → Value) (hi : i < n) (hs : 0 < sz → St b)
      (hc : ∀ i j, i < n → j < sz → w.cell? ⟨b, o + i * sz + j, none⟩ = some (x i j))
      (h1 : ∀ i j, i < n → j < sz → (x i j).oneCell' = true)
      (hr : ∀ i j, i < n → j < sz → Rel St w noGh (f i j) (x i j)) : Rel St w g (.elem sz n f i off) (.pointer (some ⟨b, o + i * sz + off, none⟩))
  | own (g : Gh) (r : Nat) (v : Value) (h : g r = some v) (h1 : v.oneCell' = true) : Rel St w g (.own r) v
  | ptr (g : Gh) (r off b : Nat) (h : g r = some (.pointer (some ⟨b, 0, none⟩))) : Rel St w g (.ptr r off) (.pointer (some ⟨b, off, none⟩))
  | oelem (g : Gh) (r sz i off b n cap : Nat) (h : g r = some (.slice (some ⟨b, 0, none⟩) n cap)) : Rel St w g (.oelem r sz i off) (.pointer (some ⟨b, i * sz + off, none⟩))
  | osl (g : Gh) (r sz i off : Nat) (b : Option Nat) (n cap : Nat) (h : g r = some (.slice (b.map fun b => ⟨b, 0, none⟩) n cap) ∧ i + off ≤ cap ∧ (b = none → cap = 0)) : Rel St w g (.osl r sz i off) (.slice (b.map fun b => ⟨b, (if cap = i then 0 else i * sz), none⟩) off (cap - i))
  | fn (g : Gh) (f : Fn) (cs : List V) (vs : Array Value) (hl : vs.size = cs.length)
      (h : ∀ i, i < cs.length → Rel St w g (cs.getD i .any) (vs.getD i undef)) : Rel St w g (.fn f cs) (.func f #[] vs)
  | lit (g : Gh) (x : Value) : Rel St w g (.lit x) x
  | opt (g : Gh) (c : Bool) (v : V) (x : Value) (h : c = true → Rel St w g v x) (h0 : c = false → x = undef) : Rel St w g (.opt c v) x
  | abool (g : Gh) (p : Bool → Prop) (b : Bool) (h : p b) : Rel St w g (.abool p) (.bool b)
  | mp (g : Gh) (n : Nat) (kf vf : Nat → V) (b : Nat) (es : Array MapEntry) (hs : St b) (ho : w.heap[b]? = some (.map es n)) (hn : es.size = n) (hb : ∀ i, i < n → (es.getD i default).born = i)
      (hk : ∀ i, i < n → Rel St w noGh (kf i) (es.getD i default).key) (hv : ∀ i, i < n → Rel St w noGh (vf i) (es.getD i default).val) : Rel St w g (.mp n kf vf) (.map (some b))

mutual
/-- Does 'v' not name the own block 'r'? -/
def V.fresh (r : Nat) : V → Bool
  | .own k => !(k == r)
  | .ptr k _ => !(k == r)
  | .oelem k _ _ _ => !(k == r)
  | .osl k _ _ _ => !(k == r)
  | .agg cs => V.freshAll r cs
  | .tup cs => V.freshAll r cs
  | .fn _ cs => V.freshAll r cs
  | .opt _ v => V.fresh r v
  | _ => true
def V.freshAll (r : Nat) : List V → Bool
  | [] => true
  | v :: l => V.fresh r v && V.freshAll r l
end

theorem V.freshAll_get {r : Nat} : ∀ {l : List V} {i : Nat}, V.freshAll r l = true → V.fresh r (l.getD i .any) = true
  | [], i, _ => by simp [V.fresh]
  | v :: l, 0, h => by simp only [V.freshAll, Bool.and_eq_true] at h; simpa using h.1
  | v :: l, i + 1, h => by simp only [V.freshAll, Bool.and_eq_true] at h; simpa using V.freshAll_get (i := i) h.2

/-- The world turns outside the stable blocks; the stable blocks may become more; own blocks other than those that 'v' names may be bound anew. -/
theorem Rel.mono {St St' : Nat → Prop} {w w' : World} (hS : ∀ k, St k → St' k) (hw : ∀ k, St k → w'.heap[k]? = w.heap[k]?) :
    ∀ {g : Gh} {v : V} {x : Value}, Rel St w g v x → Rel St' w' g v x := by
  intro g v x h
  induction h with
  | any g x => exact .any g x
  | bool g b => exact .bool g b
  | int g k n => exact .int g k n
  | b16 g x => exact .b16 g x
  | str g l s h => exact .str g l s h
  | agg g cs vs hl h ih => exact .agg g cs vs hl ih
  | tup g cs vs hl h ih => exact .tup g cs vs hl ih
  | nils g => exact .nils g
  | arr0 g sz f => exact .arr0 g sz f
  | arr g sz n f b o cap x hcap hmax hs hc h1 hr ih =>
    exact .arr g sz n f b o cap x hcap hmax (fun hn hz => hS b (hs hn hz)) (fun i j hi hj => by
      rw [World.cell?_of_block (w := w) (hw b (hs (by omega) (by omega)))]; exact hc i j hi hj) h1 ih
  | elem g sz n f i off b o x hi hs hc h1 hr ih =>
    exact .elem g sz n f i off b o x hi (fun hz => hS b (hs hz)) (fun i j hi hj => by
      rw [World.cell?_of_block (w := w) (hw b (hs (by omega)))]; exact hc i j hi hj) h1 ih
  | own g r v h h1 => exact .own g r v h h1
  | ptr g r off b h => exact .ptr g r off b h
  | oelem g r sz i off b n cap h => exact .oelem g r sz i off b n cap h
  | osl g r sz i off b n cap h => exact .osl g r sz i off b n cap h
  | fn g f cs vs hl h ih => exact .fn g f cs vs hl ih
  | lit g x => exact .lit g x
  | opt g c v x h h0 ih => exact .opt g c v x ih h0
  | abool g p b h => exact .abool g p b h
  | mp g n kf vf b es hs ho hn hb hk hv ihk ihv => exact .mp g n kf vf b es (hS b hs) (by rw [hw b hs]; exact ho) hn hb ihk ihv

/-- Another ghost that agrees but at 'r', which 'v' does not name. -/
theorem Rel.rebind {St : Nat → Prop} {w : World} {r : Nat} :
    ∀ {g : Gh} {v : V} {x : Value}, Rel St w g v x → ∀ {g' : Gh}, (∀ k, k ≠ r → g' k = g k) → v.fresh r = true → Rel St w g' v x := by
  intro g v x h
  induction h with
  | any g x => intro _ _ _; exact .any _ x
  | bool g b => intro _ _ _; exact .bool _ b
  | int g k n => intro _ _ _; exact .int _ k n
  | b16 g x => intro _ _ _; exact .b16 _ x
  | str g l s h => intro _ _ _; exact .str _ l s h
  | agg g cs vs hl h ih => intro g' hg hf; simp only [V.fresh] at hf; exact .agg _ cs vs hl fun i hi => ih i hi hg (V.freshAll_get hf)
  | tup g cs vs hl h ih => intro g' hg hf; simp only [V.fresh] at hf; exact .tup _ cs vs hl fun i hi => ih i hi hg (V.freshAll_get hf)
  | nils g => intro _ _ _; exact .nils _
  | arr0 g sz f => intro _ _ _; exact .arr0 _ sz f
  | arr g sz n f b o cap x hcap hmax hs hc h1 hr ih => intro _ _ _; exact .arr _ sz n f b o cap x hcap hmax hs hc h1 hr
  | elem g sz n f i off b o x hi hs hc h1 hr ih => intro _ _ _; exact .elem _ sz n f i off b o x hi hs hc h1 hr
  | own g k v h h1 => intro g' hg hf; simp [V.fresh] at hf; exact .own _ k v (by rw [hg k hf]; exact h) h1
  | ptr g k off b h => intro g' hg hf; simp [V.fresh] at hf; exact .ptr _ k off b (by rw [hg k hf]; exact h)
  | oelem g k sz i off b n cap h => intro g' hg hf; simp [V.fresh] at hf; exact .oelem _ k sz i off b n cap (by rw [hg k hf]; exact h)
  | osl g k sz i off b n cap h => intro g' hg hf; simp [V.fresh] at hf; exact .osl _ k sz i off b n cap (by rw [hg k hf]; exact h)
  | fn g f cs vs hl h ih => intro g' hg hf; simp only [V.fresh] at hf; exact .fn _ f cs vs hl fun i hi => ih i hi hg (V.freshAll_get hf)
  | lit g x => intro _ _ _; exact .lit _ x
  | opt g c v x h h0 ih => intro g' hg hf; simp only [V.fresh] at hf; exact .opt _ c v x (fun hc => ih hc hg hf) h0
  | abool g p b h => intro _ _ _; exact .abool _ p b h
  | mp g n kf vf b es hs ho hn hb hk hv ihk ihv => intro _ _ _; exact .mp _ n kf vf b es hs ho hn hb hk hv

def tget : List (Nat × V) → Nat → V
  | [], _ => .any
  | (k, v) :: l, d => if k = d then v else tget l d

/-- Behind the temporaries: number G0 + k stands for the pointer to the global 'k'. -/
def G0 : Nat := 1000000
def sval (a : Act) (d : Nat) : Value := if d < G0 then a.tmps.getD d undef else .pointer (some ⟨d - G0, 0, none⟩)
/-- What a round of a range over a function needs: the caller's temporaries, the codes; the jumps that its body may leave by; the ghost that the temporaries are read with. -/
structure YC where
  N : Nat
  t : List (Nat × V)
  ps : Array Tmp
  assign : Code
  body : Code
  jumps : List Code
  g0 : Gh
def YOk (St : Nat → Prop) (w : World) (g : Gh) (r : Loop) (k : Nat) : Option (List Nat × YC) → Prop
  | none => True
  | some (ids, C) => (∀ i, i ∈ ids → g i = C.g0 i) ∧ r.params = C.ps ∧ r.assign = C.assign ∧ r.body = C.body ∧ (k = 0 → r.state = .ready ∧ r.pending = none) ∧ (k = 1 → r.state = .busy) ∧ (∀ j, k = j + 2 → r.state = .done ∧ r.pending = C.jumps[j]?) ∧
      r.tmps.size = C.N ∧ C.N ≤ G0 ∧ ∀ d, Rel St w C.g0 (tget C.t d) (sval { tmps := r.tmps, defers := [] } d)
def yoIds : Option (List Nat × YC) → List Nat
  | some (ids, _) => ids
  | none => []
def yoCut (bad : Bool) (o : Option (List Nat × YC)) : Option (List Nat × YC) := if bad then none else o
theorem YOk.mono {St St' : Nat → Prop} {w w' : World} {g g' : Gh} {r : Loop} {k : Nat} {o : Option (List Nat × YC)} (h : YOk St w g r k o) (hS : ∀ k, St k → St' k) (hw : ∀ k, St k → w'.heap[k]? = w.heap[k]?) (hg : ∀ i, i ∈ yoIds o → g' i = g i) : YOk St' w' g' r k o := by
  cases o with
  | none => trivial
  | some p =>
    obtain ⟨ids, C⟩ := p
    obtain ⟨h1, h2, h3, h4, h5, h6, h6', h7, h8, h9⟩ := h
    exact ⟨fun i hi => (hg i hi).trans (h1 i hi), h2, h3, h4, h5, h6, h6', h7, h8, fun d => (h9 d).mono hS hw⟩
theorem YOk.cutb {St : Nat → Prop} {w : World} {g : Gh} {r : Loop} {k : Nat} {o : Option (List Nat × YC)} (h : YOk St w g r k o) (bad : Bool) : YOk St w g r k (yoCut bad o) := by
  unfold yoCut; split
  · trivial
  · exact h
/-- The own blocks of a call. -/
inductive Blk where
  | cells (t : TypeId) (cs : List V)
  | rows (e : TypeId) (sz n : Nat) (f : Nat → Nat → V)
  | iter (n : Nat) (kf vf : Nat → V) (seen : List Nat)
  | siter (l : List UInt8) (pos : Nat)
  | mapB (n : Nat) (kf vf : Nat → V)
  | yld (o : Option (List Nat × YC)) (k : Nat)

abbrev Heap := List (Nat × Blk)
def Heap.get : Heap → Nat → Option Blk
  | [], _ => none
  | (k, b) :: h, r => if k = r then some b else Heap.get h r
def Heap.del (h : Heap) (r : Nat) : Heap := h.filter fun p => !(p.1 == r)

theorem Heap.get_cons (k : Nat) (b : Blk) (h : Heap) (r : Nat) : Heap.get ((k, b) :: h) r = if k = r then some b else Heap.get h r := rfl
theorem Heap.get_del (r k : Nat) : ∀ h : Heap, Heap.get (h.del r) k = if k = r then none else Heap.get h k
  | [] => by simp [Heap.del, Heap.get]
  | (a, b) :: h => by
    have ih := Heap.get_del r k h
    unfold Heap.del at ih ⊢
    by_cases har : a = r
    · subst har
      simp only [List.filter_cons, beq_self_eq_true, Bool.not_true, Bool.false_eq_true, if_false, ih, Heap.get]
      by_cases hk : k = a
      · simp [hk]
      · simp [hk, Ne.symm hk]
    · have : (a == r) = false := by simpa using har
      simp only [List.filter_cons, this, Bool.not_false, if_true, Heap.get, ih]
      by_cases hk : k = r
      · subst hk; simp [har]
      · simp [hk]

def Blk.fresh (r : Nat) : Blk → Bool
  | .cells _ cs => V.freshAll r cs
  | .rows .. => true
  | .iter .. => true
  | .siter .. => true
  | .mapB .. => true
  | .yld o _ => !(yoIds o).contains r
def Heap.fresh (r : Nat) : Heap → Bool
  | [] => true
  | (_, b) :: h => b.fresh r && Heap.fresh r h
theorem Heap.fresh_get {r : Nat} : ∀ {h : Heap} {k : Nat} {b : Blk}, Heap.fresh r h = true → h.get k = some b → b.fresh r = true
  | [], _, _, _, hg => by simp [Heap.get] at hg
  | (a, c) :: h, k, b, hf, hg => by
    simp only [Heap.fresh, Bool.and_eq_true] at hf
    simp only [Heap.get] at hg
    split at hg
    · cases hg; exact hf.1
    · exact Heap.fresh_get hf.2 hg

def BlkOk (St : Nat → Prop) (w : World) (g : Gh) (v : Value) : Blk → Prop
  | .cells t cs => ∃ b vals, v = .pointer (some ⟨b, 0, none⟩) ∧ w.heap[b]? = some (.cells vals t (0, 0)) ∧ vals.size = cs.length ∧
      (∀ i, i < cs.length → Rel St w g (cs.getD i .any) (vals.getD i undef)) ∧ (∀ i, i < cs.length → (vals.getD i undef).oneCell' = true)
  | .rows e sz n f => ∃ xs, w.ownsRow 0 e sz v n xs ∧ (∀ i j, i < n → j < sz → Rel St w noGh (f i j) (xs.getD (i * sz + j) undef)) ∧
      (∀ x ∈ xs, x.oneCell' = true)
  | .iter n kf vf seen => ∃ b m, v = .pointer (some ⟨b, 0, none⟩) ∧ w.heap[b]? = some (.mapIter (some m) n seen.toArray n) ∧ Rel St w noGh (.mp n kf vf) (.map (some m))
  | .siter l pos => ∃ b s, v = .pointer (some ⟨b, 0, none⟩) ∧ w.heap[b]? = some (.stringIter s pos) ∧ s.data.toList = l
  | .yld o k => ∃ l r, v = .func (.yield l) #[] #[] ∧ w.heap[l]? = some (.loop r) ∧ YOk St w g r k o
  | .mapB n kf vf => ∃ b es, v = .map (some b) ∧ w.heap[b]? = some (.map es n) ∧ es.size = n ∧ (∀ i, i < n → (es.getD i default).born = i) ∧
      (∀ i, i < n → Rel St w noGh (kf i) (es.getD i default).key) ∧ (∀ i, i < n → Rel St w noGh (vf i) (es.getD i default).val)

def blockOf : Value → Option Nat
  | .pointer (some a) => some a.block
  | .slice (some a) _ _ => some a.block
  | .map b => b
  | .func (.yield l) _ _ => some l
  | _ => none

theorem BlkOk.lt {St : Nat → Prop} {w : World} {g : Gh} {v : Value} {b : Blk} (h : BlkOk St w g v b) : ∀ k, blockOf v = some k → k < w.heap.size := by
  intro k hk
  cases b with
  | cells t cs =>
    obtain ⟨b, vals, rfl, hb, _⟩ := h
    simp [blockOf] at hk; subst hk
    exact (Array.getElem?_eq_some_iff.1 hb).1
  | rows e sz n f =>
    obtain ⟨xs, ho, _⟩ := h
    rcases ho.2 with ⟨rfl, _⟩ | ⟨gg, cap, cur, rfl, _, hg, _⟩
    · simp [blockOf] at hk
    · simp [blockOf] at hk; subst hk
      exact (Array.getElem?_eq_some_iff.1 hg).1
  | iter n kf vf seen =>
    obtain ⟨b, m, rfl, hb, _⟩ := h
    simp [blockOf] at hk; subst hk
    exact (Array.getElem?_eq_some_iff.1 hb).1
  | siter l pos =>
    obtain ⟨b, s, rfl, hb, _⟩ := h
    simp [blockOf] at hk; subst hk
    exact (Array.getElem?_eq_some_iff.1 hb).1
  | mapB n kf vf =>
    obtain ⟨b, es, rfl, hb, _⟩ := h
    simp [blockOf] at hk; subst hk
    exact (Array.getElem?_eq_some_iff.1 hb).1
  | yld o j =>
    obtain ⟨l, r, rfl, hb, _⟩ := h
    simp [blockOf] at hk; subst hk
    exact (Array.getElem?_eq_some_iff.1 hb).1

theorem ownsRow_heap {w w' : World} {e : TypeId} {sz : Nat} {v : Value} {n : Nat} {xs : List Value} (h : w.ownsRow 0 e sz v n xs)
    (hb : ∀ k, blockOf v = some k → w'.heap[k]? = w.heap[k]?) : w'.ownsRow 0 e sz v n xs := by
  refine ⟨h.1, ?_⟩
  rcases h.2 with hn | ⟨g, cap, cur, rfl, h0, hg, rest⟩
  · exact .inl hn
  · exact .inr ⟨g, cap, cur, rfl, h0, by rw [hb g rfl]; exact hg, rest⟩

theorem BlkOk.mono {St St' : Nat → Prop} {w w' : World} {g g' : Gh} {v : Value} {b : Blk} (h : BlkOk St w g v b)
    (hS : ∀ k, St k → St' k) (hw : ∀ k, St k → w'.heap[k]? = w.heap[k]?) (hb : ∀ k, blockOf v = some k → w'.heap[k]? = w.heap[k]?)
    {r : Nat} (hg : ∀ k, k ≠ r → g' k = g k) (hf : b.fresh r = true ∨ g' = g) : BlkOk St' w' g' v b := by
  cases b with
  | cells t cs =>
    obtain ⟨b, vals, rfl, hh, hl, hr, h1⟩ := h
    refine ⟨b, vals, rfl, by rw [hb b rfl]; exact hh, hl, fun i hi => ?_, h1⟩
    rcases hf with hf | rfl
    · exact ((hr i hi).rebind hg (V.freshAll_get hf)).mono hS hw
    · exact (hr i hi).mono hS hw
  | rows e sz n f =>
    obtain ⟨xs, ho, hr, h1⟩ := h
    exact ⟨xs, ownsRow_heap ho hb, fun i j hi hj => (hr i j hi hj).mono hS hw, h1⟩
  | iter n kf vf seen =>
    obtain ⟨b, m, rfl, hh, hr⟩ := h
    exact ⟨b, m, rfl, by rw [hb b rfl]; exact hh, hr.mono hS hw⟩
  | siter l pos =>
    obtain ⟨b, s, rfl, hh, hr⟩ := h
    exact ⟨b, s, rfl, by rw [hb b rfl]; exact hh, hr⟩
  | mapB n kf vf =>
    obtain ⟨b, es, rfl, hh, hn, hbn, hk, hv⟩ := h
    exact ⟨b, es, rfl, by rw [hb b rfl]; exact hh, hn, hbn, fun i hi => (hk i hi).mono hS hw, fun i hi => (hv i hi).mono hS hw⟩
  | yld o k =>
    obtain ⟨l, rr, rfl, hh, hy⟩ := h
    refine ⟨l, rr, rfl, by rw [hb l rfl]; exact hh, hy.mono hS hw fun i hi => ?_⟩
    rcases hf with hf | rfl
    · exact hg i (by rintro rfl; simp [Blk.fresh] at hf; exact hf hi)
    · rfl

/-- Outside 'Own' what was there is as it was. -/
structure Frm (w w' : World) (Own : Nat → Prop) : Prop where
  os : w'.os = w.os
  tape : w'.tape = w.tape
  output : w'.output = w.output
  size : w.heap.size ≤ w'.heap.size
  block : ∀ k, k < w.heap.size → ¬ Own k → w'.heap[k]? = w.heap[k]?

theorem Frm.refl (w : World) (Own : Nat → Prop) : Frm w w Own := ⟨rfl, rfl, rfl, Nat.le_refl _, fun _ _ _ => rfl⟩

/-- Where a body begins. -/
structure Start where
  w : World
  St : Nat → Prop
  Own : Nat → Prop
  g : Gh
  ro : Option Nat

structure WSim (z : Start) (St : Nat → Prop) (g : Gh) (h : Heap) (w : World) : Prop where
  frm : Frm z.w w z.Own
  st0 : ∀ k, z.St k → St k
  st1 : ∀ k, St k → k < w.heap.size ∧ (z.St k ∨ z.Own k ∨ z.w.heap.size ≤ k)
  ow : ∀ r b v, h.get r = some b → g r = some v → ∀ k, blockOf v = some k → ¬ St k ∧ (z.Own k ∨ z.w.heap.size ≤ k)
  ok : ∀ r b, h.get r = some b → ∃ v, g r = some v ∧ BlkOk St w g v b
  sep : ∀ r r' b b' v v', h.get r = some b → h.get r' = some b' → g r = some v → g r' = some v' → r ≠ r' → ∀ k, blockOf v = some k → blockOf v' ≠ some k

/-- A state: the number of temporaries, what they hold, the own blocks; the boxes that are borrowed ('b'); own blocks bear the number of their temporary plus 'o'. -/
structure S where
  N : Nat
  t : List (Nat × V)
  h : Heap
  b : List Nat
  o : Nat

def TSim (St : Nat → Prop) (w : World) (g : Gh) (N : Nat) (t : List (Nat × V)) (a : Act) : Prop :=
  (True ∧ a.tmps.size ≤ G0) ∧ a.tmps.size = N ∧ ∀ d, Rel St w g (tget t d) (sval a d)
theorem TSim.tmp {St : Nat → Prop} {w : World} {g : Gh} {N : Nat} {t : List (Nat × V)} {a : Act} (h : TSim St w g N t a) {d : Nat} (hd : d < G0) : Rel St w g (tget t d) (a.tmps.getD d undef) := by
  have := h.2.2 d
  rwa [sval, if_pos hd] at this
theorem TSim.glob {St : Nat → Prop} {w : World} {g : Gh} {N : Nat} {t : List (Nat × V)} {a : Act} (h : TSim St w g N t a) (k : Nat) : Rel St w g (tget t (G0 + k)) (.pointer (some ⟨k, 0, none⟩)) := by
  have := h.2.2 (G0 + k)
  rwa [sval, if_neg (by omega), Nat.add_sub_cancel_left] at this

def Keep (z : Start) (g : Gh) (b : List Nat) : Prop := ∀ r, r ∈ b → g r = z.g r
/-- The mark of a range over a function: a deferred call that takes none. -/
def markD (D : Nat) : Deferred := { target := .collected D, args := #[] }
/-- What is kept, and the marks of this activation. -/
structure KD (z : Start) (St : Nat → Prop) (w : World) (g : Gh) (b : List Nat) (a : Act) : Prop where
  keep : Keep z g b
  dfr : ∃ dm : List Nat, dm.Nodup ∧ a.defers = dm.map markD ∧ ∀ D, D ∈ dm → St D ∧ w.heap[D]? = some (.deferred (some [])) ∧ z.w.heap.size ≤ D
  rcd : ∀ l, z.ro = some l → St l ∧ ∃ r, w.heap[l]? = some (.loop r)
  rd : z.ro.isSome = true → a.defers = []
theorem KD.to {z : Start} {St St' : Nat → Prop} {w w' : World} {g g' : Gh} {b : List Nat} {a a' : Act} (h : KD z St w g b a) (hS : ∀ k, St k → St' k) (hw : ∀ k, St k → w'.heap[k]? = w.heap[k]?) (ha : a'.defers = a.defers) (hg : ∀ r, r ∈ b → g' r = g r) : KD z St' w' g' b a' := by
  obtain ⟨hk, ⟨dm, h1, h2, h3⟩, hr, hd⟩ := h
  refine ⟨fun r hr => (hg r hr).trans (hk r hr), ⟨dm, h1, ha.trans h2, fun D hD => ?_⟩, fun l hl => ?_, fun h => ha.trans (hd h)⟩
  · obtain ⟨h4, h5, h6⟩ := h3 D hD
    exact ⟨hS D h4, by rw [hw D h4]; exact h5, h6⟩
  · obtain ⟨h4, r, h5⟩ := hr l hl
    exact ⟨hS l h4, r, by rw [hw l h4]; exact h5⟩
def Sim (z : Start) (s : S) (a : Act) (w : World) : Prop := ∃ St g, WSim z St g s.h w ∧ TSim St w g s.N s.t a ∧ KD z St w g s.b a

end Go.Abs
namespace Go.Abs
open Go

/-! ### Inversions -/
section
variable {St : Nat → Prop} {w : World} {g : Gh} {x : Value}
theorem Rel.int_inv {k : IntKind} {n : Int} (h : Rel St w g (.int k n) x) : x = .int k n := by cases h; rfl
theorem Rel.bool_inv {b : Bool} (h : Rel St w g (.bool b) x) : x = .bool b := by cases h; rfl
theorem Rel.b16_inv {y : BitVec 16} (h : Rel St w g (.b16 y) x) : x = .int .u16 (y.toNat : Int) := by cases h; rfl
theorem Rel.str_inv {l : List UInt8} (h : Rel St w g (.str l) x) : ∃ s : ByteArray, x = .string s ∧ s.data.toList = l := by cases h; exact ⟨_, rfl, by assumption⟩
theorem Rel.nils_inv (h : Rel St w g .nils x) : x = .slice none 0 0 := by cases h; rfl
theorem Rel.own_inv {r : Nat} (h : Rel St w g (.own r) x) : g r = some x := by cases h; assumption
theorem Rel.agg_inv {cs : List V} (h : Rel St w g (.agg cs) x) : ∃ vs : Array Value, x = .agg vs ∧ vs.size = cs.length ∧ ∀ i, i < cs.length → Rel St w g (cs.getD i .any) (vs.getD i undef) := by
  cases h; exact ⟨_, rfl, by assumption, by assumption⟩
theorem Rel.tup_inv {cs : List V} (h : Rel St w g (.tup cs) x) : ∃ vs : Array Value, x = .tuple vs ∧ vs.size = cs.length ∧ ∀ i, i < cs.length → Rel St w g (cs.getD i .any) (vs.getD i undef) := by
  cases h; exact ⟨_, rfl, by assumption, by assumption⟩
theorem Rel.opt_inv {c : Bool} {v : V} (h : Rel St w g (.opt c v) x) (hc : c = true) : Rel St w g v x := by cases h with | opt _ _ _ _ h h0 => exact h hc
end

/-! ### Integers -/
def inR : IntKind → Int → Prop
  | .i8, n => -128 ≤ n ∧ n ≤ 127
  | .i16, n => -32768 ≤ n ∧ n ≤ 32767
  | .i32, n => -2147483648 ≤ n ∧ n ≤ 2147483647
  | .i64, n => -9223372036854775808 ≤ n ∧ n ≤ 9223372036854775807
  | .u8, n => 0 ≤ n ∧ n ≤ 255
  | .u16, n => 0 ≤ n ∧ n ≤ 65535
  | .u32, n => 0 ≤ n ∧ n ≤ 4294967295
  | .u64, n => 0 ≤ n ∧ n ≤ 18446744073709551615

theorem wrap_in {k : IntKind} {n : Int} (h : inR k n) : k.wrap n = n := by
  cases k
  · exact IntWalk.i8_in n h
  · exact IntWalk.i16_in n h
  · exact IntWalk.i32_in n h
  · exact IntWalk.i64_in n h
  · exact IntWalk.u8_in n h
  · exact IntWalk.u16_in n h
  · exact IntWalk.u32_in n h
  · exact IntWalk.u64_in n h

/-- Bits of two integers, as the model has them. -/
def bitsI (op : BinOp) (k : IntKind) (x y : Int) : Int :=
  match op with
  | .and => k.wrap (BitVec.ofInt k.bits x &&& BitVec.ofInt k.bits y).toNat
  | .or => k.wrap (BitVec.ofInt k.bits x ||| BitVec.ofInt k.bits y).toNat
  | .xor => k.wrap (BitVec.ofInt k.bits x ^^^ BitVec.ofInt k.bits y).toNat
  | _ => k.wrap (BitVec.ofInt k.bits x &&& ~~~BitVec.ofInt k.bits y).toNat

def intV (wm : Bool) (op : BinOp) (k : IntKind) (a b : Int) : Option (V × Prop) :=
  match op, wm with
  | .add, false => some (.int k (a + b), inR k (a + b))
  | .sub, false => some (.int k (a - b), inR k (a - b))
  | .mul, false => some (.int k (a * b), inR k (a * b))
  | .quo, false => some (.int k (a / b), 0 ≤ a ∧ 1 ≤ b ∧ inR k (a / b))
  | .rem, false => some (.int k (a % b), 0 ≤ a ∧ 1 ≤ b)
  | .add, true => some (.int k (k.wrap (a + b)), True)
  | .sub, true => some (.int k (k.wrap (a - b)), True)
  | .mul, true => some (.int k (k.wrap (a * b)), True)
  | .quo, true => some (.int k (k.wrap (a.tdiv b)), b ≠ 0)
  | .rem, true => some (.int k (a.tmod b), b ≠ 0)
  | .and, _ => some (.int k (bitsI .and k a b), True)
  | .or, _ => some (.int k (bitsI .or k a b), True)
  | .xor, _ => some (.int k (bitsI .xor k a b), True)
  | .andNot, _ => some (.int k (bitsI .andNot k a b), True)
  | .eql, _ => some (.bool (a == b), True)
  | .neq, _ => some (.bool (a != b), True)
  | .lss, _ => some (.bool (decide (a < b)), True)
  | .leq, _ => some (.bool (decide (a ≤ b)), True)
  | .gtr, _ => some (.bool (decide (a > b)), True)
  | .geq, _ => some (.bool (decide (a ≥ b)), True)
  | _, _ => none

def shiftV (wm : Bool) (op : BinOp) (k : IntKind) (a b : Int) : Option (V × Prop) :=
  match op, wm with
  | .shl, false => some (.int k (a * 2 ^ b.toNat), 0 ≤ b ∧ b.toNat ≤ k.bits ∧ inR k (a * 2 ^ b.toNat))
  | .shl, true => some (.int k (k.wrap (a * 2 ^ (min b.toNat k.bits))), 0 ≤ b)
  | .shr, _ => some (.int k (a / 2 ^ b.toNat), 0 ≤ b ∧ b.toNat ≤ k.bits)
  | _, _ => none

def b16V (op : BinOp) (x y : BitVec 16) : Option (V × Prop) :=
  match op with
  | .add => some (.b16 (x + y), True)
  | .sub => some (.b16 (x - y), True)
  | .and => some (.b16 (x &&& y), True)
  | .or => some (.b16 (x ||| y), True)
  | .xor => some (.b16 (x ^^^ y), True)
  | .andNot => some (.b16 (x &&& ~~~y), True)
  | .eql => some (.bool (x == y), True)
  | .neq => some (.bool (!(x == y)), True)
  | .lss => some (.bool (decide (x.toNat < y.toNat)), True)
  | .leq => some (.bool (decide (x.toNat ≤ y.toNat)), True)
  | .gtr => some (.bool (decide (x.toNat > y.toNat)), True)
  | .geq => some (.bool (decide (x.toNat ≥ y.toNat)), True)
  | _ => none

def strV (op : BinOp) (a b : List UInt8) : Option (V × Prop) :=
  match op with
  | .add => some (.str (a ++ b), a.length + b.length ≤ 9223372036854775807)
  | .eql => some (.bool (a == b), True)
  | .neq => some (.bool (!(a == b)), True)
  | .lss => some (.bool (Op.bytesLess a b), True)
  | .leq => some (.bool (Op.bytesLess a b || a == b), True)
  | .gtr => some (.bool (!(Op.bytesLess a b || a == b)), True)
  | .geq => some (.bool (!Op.bytesLess a b), True)
  | _ => none

def binV (wm : Bool) (op : BinOp) : V → V → Option (V × Prop)
  | .int k a, .int k' b =>
    match op with
    | .shl => shiftV wm .shl k a b
    | .shr => shiftV wm .shr k a b
    | op => if k = k' then intV wm op k a b else none
  | .b16 x, .b16 y => b16V op x y
  | .b16 x, .int _ b =>
    match op with
    | .shl => some (.b16 (x <<< b.toNat), 0 ≤ b)
    | .shr => some (.b16 (x >>> b.toNat), 0 ≤ b)
    | _ => none
  | .str a, .str b => strV op a b
  | _, _ => none

theorem wrap_u16 (n : Int) : IntKind.u16.wrap n = ((BitVec.ofInt 16 n).toNat : Int) := by
  simp only [IntKind.wrap, IntKind.bits, IntKind.signed]
  simp [BitVec.toNat_ofInt]
  omega

section
variable (P : Program) (w : World)

theorem run_intV {wm : Bool} {op : BinOp} {t : TypeId} {k : IntKind} {a b : Int} {v : V} {φ : Prop} (h : intV wm op k a b = some (v, φ)) (hφ : φ) :
    ∃ x, (binOp op t (.int k a) (.int k b)).run P w = .ok x w ∧ ∀ St g, Rel St w g v x := by
  cases op <;> cases wm <;> simp only [intV, Option.some.injEq, Prod.mk.injEq, reduceCtorEq] at h <;> obtain ⟨rfl, rfl⟩ := h <;>
    simp only [binOp, ne_eq, not_true_eq_false, if_false, Op.intArith, Op.intDiv, Op.intBits, Op.intCmp, Sem.run_ite, Sem.run_pure]
  case quo.false =>
    obtain ⟨h0, h1, h2⟩ := hφ
    rw [if_neg (by omega)]
    refine ⟨_, rfl, fun _ _ => ?_⟩
    rw [Int.tdiv_eq_ediv_of_nonneg h0, wrap_in h2]
    exact .int _ _ _
  case rem.false =>
    obtain ⟨h0, h1⟩ := hφ
    rw [if_neg (by omega)]
    refine ⟨_, rfl, fun _ _ => ?_⟩
    rw [Int.tmod_eq_emod_of_nonneg h0]
    exact .int _ _ _
  case quo.true => rw [if_neg hφ]; exact ⟨_, rfl, fun _ _ => .int _ _ _⟩
  case rem.true => rw [if_neg hφ]; exact ⟨_, rfl, fun _ _ => .int _ _ _⟩
  all_goals first
    | exact ⟨_, rfl, fun _ _ => .int _ _ _⟩
    | exact ⟨_, rfl, fun _ _ => .bool _ _⟩
    | exact ⟨_, rfl, fun _ _ => by rw [wrap_in hφ]; exact .int _ _ _⟩

theorem run_shiftV {wm : Bool} {op : BinOp} {t : TypeId} {k k' : IntKind} {a b : Int} {v : V} {φ : Prop} (h : shiftV wm op k a b = some (v, φ)) (hφ : φ) :
    ∃ x, (binOp op t (.int k a) (.int k' b)).run P w = .ok x w ∧ ∀ St g, Rel St w g v x := by
  cases op <;> cases wm <;> simp only [shiftV, Option.some.injEq, Prod.mk.injEq, reduceCtorEq] at h <;> obtain ⟨rfl, rfl⟩ := h <;>
    simp only [binOp, Op.shift, Sem.run_ite, Sem.run_pure]
  case shl.false =>
    obtain ⟨h0, h1, h2⟩ := hφ
    rw [if_neg (by omega), Nat.min_eq_left h1, wrap_in h2]
    exact ⟨_, rfl, fun _ _ => .int _ _ _⟩
  case shl.true => rw [if_neg (by omega)]; exact ⟨_, rfl, fun _ _ => .int _ _ _⟩
  all_goals
    obtain ⟨h0, h1⟩ := hφ
    rw [if_neg (by omega), Nat.min_eq_left h1]
    refine ⟨_, rfl, fun _ _ => ?_⟩
    rw [Int.fdiv_eq_ediv_of_nonneg _ (Int.le_of_lt (Int.pow_pos (by decide)))]
    exact .int _ _ _

theorem run_b16V {op : BinOp} {t : TypeId} {x y : BitVec 16} {v : V} {φ : Prop} (h : b16V op x y = some (v, φ)) :
    ∃ u, (binOp op t (.int .u16 (x.toNat : Int)) (.int .u16 (y.toNat : Int))).run P w = .ok u w ∧ ∀ St g, Rel St w g v u := by
  have key : ∀ (n : Int) (z : BitVec 16), BitVec.ofInt 16 n = z → ∀ St g, Rel St w g (.b16 z) (.int .u16 (IntKind.u16.wrap n)) := by
    intro n z hz St g
    rw [wrap_u16, hz]
    exact .b16 _ _
  have ofN : ∀ z : BitVec 16, BitVec.ofInt 16 (z.toNat : Int) = z := fun z => by
    apply BitVec.eq_of_toNat_eq
    have := z.isLt
    simp
  cases op <;> simp only [b16V, Option.some.injEq, Prod.mk.injEq, reduceCtorEq] at h <;> obtain ⟨rfl, rfl⟩ := h <;>
    simp only [binOp, ne_eq, not_true_eq_false, if_false, Op.intArith, Op.intBits, Op.intCmp, Sem.run_pure, IntKind.bits, ofN]
  case add =>
    refine ⟨_, rfl, key _ _ ?_⟩
    rw [BitVec.ofInt_add, ofN, ofN]
  case sub =>
    refine ⟨_, rfl, key _ _ ?_⟩
    apply BitVec.eq_of_toNat_eq
    have := x.isLt; have := y.isLt
    simp [BitVec.toNat_ofInt, BitVec.toNat_sub]
    omega
  all_goals first
    | exact ⟨_, rfl, key _ _ (ofN _)⟩
    | (refine ⟨_, rfl, fun _ _ => ?_⟩
       first
        | (have e : ((x.toNat : Int) == (y.toNat : Int)) = (x == y) := by
            rw [Bool.eq_iff_iff, beq_iff_eq, beq_iff_eq]; exact ⟨fun h => BitVec.eq_of_toNat_eq (by omega), fun h => by rw [h]⟩
           simp only [bne, e]; exact .bool _ _)
        | (simp only [Int.ofNat_lt, Int.ofNat_le, gt_iff_lt, ge_iff_le]; exact .bool _ _))

theorem run_strV {op : BinOp} {t : TypeId} {s u : ByteArray} {v : V} {φ : Prop} (h : strV op s.data.toList u.data.toList = some (v, φ)) (hφ : φ) :
    ∃ x, (binOp op t (.string s) (.string u)).run P w = .ok x w ∧ ∀ St g, Rel St w g v x := by
  cases op <;> simp only [strV, Option.some.injEq, Prod.mk.injEq, reduceCtorEq] at h <;> obtain ⟨rfl, rfl⟩ := h <;>
    simp only [binOp, Op.stringOp, Sem.run_ite, Sem.run_pure, ByteArray.toList_eq]
  case add =>
    have e1 : s.data.toList.length = s.size := by simp
    have e2 : u.data.toList.length = u.size := by simp
    rw [if_neg (by rw [e1, e2] at hφ; simp [IntKind.max, IntKind.signed, IntKind.bits]; omega)]
    exact ⟨_, rfl, fun _ _ => .str _ _ _ (by simp)⟩
  all_goals exact ⟨_, rfl, fun _ _ => .bool _ _⟩
end

end Go.Abs
namespace Go.Abs
open Go

def szOf (P : Program) (t : TypeId) : Option Nat := match P.info? t with | some i => some i.size | none => none
def aggT (P : Program) (t : TypeId) : Option Bool :=
  match P.underlying t with
  | some (.struct _) => some true
  | some (.array _ _) => some true
  | some _ => some false
  | none => none

def BOk (St : Nat → Prop) (w : World) (g : Gh) (h : Heap) : Prop := ∀ r b, h.get r = some b → ∃ v, g r = some v ∧ BlkOk St w g v b

section
variable {P : Program} {w : World}
theorem run_szOf {t : TypeId} {k : Nat} (h : szOf P t = some k) : (sizeOf t).run P w = .ok k w := by
  unfold szOf at h
  split at h
  · rename_i i hi; cases h; simp [sizeOf, typeInfo, hi]
  · cases h
theorem run_aggT {t : TypeId} {b : Bool} (h : aggT P t = some b) : (isAgg t).run P w = .ok b w := by
  unfold aggT at h
  split at h
  · rename_i f hu; cases h; simp [isAgg, run_underlying hu]
  · rename_i n e hu; cases h; simp [isAgg, run_underlying hu]
  · rename_i d h1 h2 hu; cases h
    simp only [isAgg, Sem.run_bind, run_underlying hu, Result.andThen_ok]
    cases d <;> first | rfl | (rename_i f; exact (h1 f rfl).elim) | (rename_i n e; exact (h2 n e rfl).elim)
  · cases h

theorem add_plain (b o n : Nat) : (⟨b, o, none⟩ : Addr).add n = ⟨b, o + n, none⟩ := by
  unfold Addr.add; split <;> simp_all

theorem run_loadVar_list {t : TypeId} {k b o : Nat} {vs : List Value} (ha : aggT P t = some true) (hs : szOf P t = some k) (hl : vs.length = k)
    (hc : ∀ j, j < k → w.cell? ⟨b, o + j, none⟩ = some (vs.getD j undef)) : (loadVar t ⟨b, o, none⟩).run P w = .ok (.agg vs.toArray) w := by
  have h := run_loadCells_list (P := P) w ⟨b, o, none⟩ vs (fun j v hv => by
    have hj : j < vs.length := (List.getElem?_eq_some_iff.1 hv).1
    rw [add_plain, hc j (by omega)]
    simp [hv])
  rw [hl] at h
  simp [loadVar, run_aggT ha, run_szOf hs, h]
theorem run_loadVar_one {t : TypeId} {a : Addr} {v : Value} (ha : aggT P t = some false) (hc : w.cell? a = some v) : (loadVar t a).run P w = .ok v w := by
  simp [loadVar, run_aggT ha, hc]
end

/-- A value of type 't' read out of the cells 'get 0, get 1, ..', of which there are 'n'. -/
def takeV (P : Program) (t : TypeId) (n : Nat) (get : Nat → V) (off : Nat) : Option V :=
  match aggT P t, szOf P t with
  | some true, some k => if off + k ≤ n then some (.agg ((List.range k).map fun j => get (off + j))) else none
  | some false, some _ => if off < n then some (get off) else none
  | _, _ => none

theorem run_takeV {P : Program} {St : Nat → Prop} {w : World} {g : Gh} {t : TypeId} {n : Nat} {get : Nat → V} {off : Nat} {v : V} (h : takeV P t n get off = some v)
    {b o : Nat} {x : Nat → Value} (hc : ∀ j, j < n → w.cell? ⟨b, o + j, none⟩ = some (x j)) (hr : ∀ j, j < n → Rel St w g (get j) (x j)) :
    ∃ y, (loadVar t ⟨b, o + off, none⟩).run P w = .ok y w ∧ Rel St w g v y := by
  unfold takeV at h
  split at h
  · rename_i k ha hs
    split at h
    · rename_i hle
      cases h
      refine ⟨_, run_loadVar_list (vs := (List.range k).map fun j => x (off + j)) ha hs (by simp) (fun j hj => ?_), ?_⟩
      · rw [Nat.add_assoc, hc _ (by omega)]; simp [hj]
      · refine .agg _ _ _ (by simp) fun i hi => ?_
        have hi' : i < k := by simpa using hi
        simpa [hi'] using hr (off + i) (by omega)
    · cases h
  · rename_i k ha hs
    split at h
    · rename_i hlt
      cases h
      exact ⟨_, run_loadVar_one ha (hc off hlt), hr off hlt⟩
    · cases h
  · cases h

def loadV (P : Program) (h : Heap) (t : TypeId) : V → Option (V × Prop)
  | .ptr r off => match h.get r with
    | some (.cells _ cs) => (takeV P t cs.length (fun j => cs.getD j .any) off).map fun v => (v, True)
    | _ => none
  | .elem sz _ f i off => (takeV P t sz (f i) off).map fun v => (v, True)
  | .oelem r sz i off => match h.get r with
    | some (.rows _ sz' n f) => if sz' = sz then (takeV P t sz (f i) off).map fun v => (v, i < n) else none
    | _ => none
  | _ => none

theorem noGh_any {St : Nat → Prop} {w : World} : ∀ {g0 g : Gh} {v : V} {x : Value}, Rel St w g0 v x → g0 = noGh → Rel St w g v x := by
  intro g0 g v x h
  induction h with
  | any => intro _; exact .any _ _
  | bool => intro _; exact .bool _ _
  | int => intro _; exact .int _ _ _
  | b16 => intro _; exact .b16 _ _
  | str g l s h => intro _; exact .str _ _ _ h
  | agg g cs vs hl h ih => intro e; exact .agg _ _ _ hl fun i hi => ih i hi e
  | tup g cs vs hl h ih => intro e; exact .tup _ _ _ hl fun i hi => ih i hi e
  | nils => intro _; exact .nils _
  | arr0 => intro _; exact .arr0 _ _ _
  | arr g sz n f b o cap x hcap hmax hs hc h1 hr ih => intro _; exact .arr _ sz n f b o cap x hcap hmax hs hc h1 hr
  | elem g sz n f i off b o x hi hs hc h1 hr ih => intro _; exact .elem _ sz n f i off b o x hi hs hc h1 hr
  | own g r v h h1 => intro e; subst e; cases h
  | ptr g r off b h => intro e; subst e; cases h
  | oelem g r sz i off b n cap h => intro e; subst e; cases h
  | osl g r sz i off b n cap h => intro e; subst e; cases h.1
  | fn g f cs vs hl h ih => intro e; exact .fn _ _ _ _ hl fun i hi => ih i hi e
  | lit => intro _; exact .lit _ _
  | opt g c v x h h0 ih => intro e; exact .opt _ _ _ _ (fun hc => ih hc e) h0
  | abool => intro _; exact .abool _ _ _ (by assumption)
  | mp g n kf vf b es hs ho hn hb hk hv => intro _; exact .mp _ n kf vf b es hs ho hn hb hk hv

theorem ownsRow_cells {w : World} {e : TypeId} {sz n : Nat} {v : Value} {xs : List Value} (h : w.ownsRow 0 e sz v n xs) {b n' cap : Nat} (hv : v = .slice (some ⟨b, 0, none⟩) n' cap) :
    ∀ j, j < n * sz → w.cell? ⟨b, j, none⟩ = some (xs.getD j undef) := by
  intro j hj
  have hx : xs[j]? = some (xs.getD j undef) := by
    have : j < xs.length := by rw [h.1]; exact hj
    simp [this]
  have := h.cells (g := b) (by rw [hv]; rfl) j _ hx
  rwa [add_plain, Nat.zero_add] at this

theorem idx_lt {i n j sz : Nat} (hi : i < n) (hj : j < sz) : i * sz + j < n * sz := by
  have : (i + 1) * sz ≤ n * sz := Nat.mul_le_mul_right _ hi
  rw [Nat.add_mul] at this
  omega

theorem run_loadV {P : Program} {St : Nat → Prop} {w : World} {g : Gh} {h : Heap} (hb : BOk St w g h) {t : TypeId} {p v : V} {φ : Prop} {x : Value}
    (hp : Rel St w g p x) (hv : loadV P h t p = some (v, φ)) (hφ : φ) : ∃ y, (Instr.loadAt t x).run P w = .ok y w ∧ Rel St w g v y := by
  cases hp <;> simp only [loadV, reduceCtorEq] at hv
  case elem sz n f i off b o x hi hs hc h1 hr =>
    rw [Option.map_eq_some_iff] at hv
    obtain ⟨v', hv', he⟩ := hv
    cases he
    simp only [Instr.loadAt, Instr.sureAddr, Sem.run_bind, Sem.run_pure, Result.andThen_ok]
    exact run_takeV hv' (x := x i) (fun j hj => hc i j hi hj) (fun j hj => noGh_any (hr i j hi hj) rfl)
  case ptr r off b hg =>
    split at hv
    · rename_i ty cs hh
      rw [Option.map_eq_some_iff] at hv
      obtain ⟨v', hv', he⟩ := hv
      cases he
      obtain ⟨u, hgu, b', vals, hu, hheap, hl, hr, h1⟩ := hb r _ hh
      rw [hg] at hgu; cases hgu; cases hu
      simp only [Instr.loadAt, Instr.sureAddr, Sem.run_bind, Sem.run_pure, Result.andThen_ok]
      have := run_takeV (P := P) hv' (b := b) (o := 0) (x := fun j => vals.getD j undef) (w := w) (g := g) (St := St)
        (fun j hj => by
          rw [Nat.zero_add, cell_of_row w b j vals ty (0, 0) hheap]
          have : j < vals.size := by omega
          simp [this]) (fun j hj => hr j hj)
      rwa [Nat.zero_add] at this
    · cases hv
  case oelem r sz i off b n cap hg =>
    split at hv
    · rename_i e sz' n' f hh
      split at hv
      · rename_i hsz
        subst hsz
        rw [Option.map_eq_some_iff] at hv
        obtain ⟨v', hv', he⟩ := hv
        cases he
        obtain ⟨u, hgu, xs, ho, hr, h1⟩ := hb r _ hh
        rw [hg] at hgu; cases hgu
        simp only [Instr.loadAt, Instr.sureAddr, Sem.run_bind, Sem.run_pure, Result.andThen_ok]
        exact run_takeV (P := P) hv' (b := b) (o := i * sz') (x := fun j => xs.getD (i * sz' + j) undef)
          (fun j hj => ownsRow_cells ho rfl _ (idx_lt hφ hj)) (fun j hj => noGh_any (hr i j hφ hj) rfl)
      · cases hv
    · cases hv

/-! ### Addresses -/
def fieldAddrV (P : Program) (st : TypeId) (fld : Nat) (p : V) : Option V :=
  match P.underlying st with
  | some (.struct fields) => match fields[fld]? with
    | some f => match szOf P f.type with
      | some (_ + 1) => match p with
        | .ptr r off => some (.ptr r (off + f.offset))
        | .elem sz n fn i off => some (.elem sz n fn i (off + f.offset))
        | .oelem r sz i off => some (.oelem r sz i (off + f.offset))
        | _ => none
      | _ => none
    | none => none
  | _ => none

theorem run_fieldAddrV {P : Program} {St : Nat → Prop} {w : World} {g : Gh} {st : TypeId} {fld : Nat} {p v : V} {x : Value}
    (hp : Rel St w g p x) (hv : fieldAddrV P st fld p = some v) : ∃ y, (Instr.fieldAt st x fld).run P w = .ok y w ∧ Rel St w g v y := by
  unfold fieldAddrV at hv
  split at hv
  case h_2 => cases hv
  rename_i fields hu
  split at hv
  case h_2 => cases hv
  rename_i f hf
  split at hv
  case h_2 => cases hv
  rename_i k hs
  have key : ∀ b o, (Instr.fieldAt st (.pointer (some ⟨b, o, none⟩)) fld).run P w = .ok (.pointer (some ⟨b, o + f.offset, none⟩)) w := by
    intro b o
    simp [Instr.fieldAt, run_underlying hu, hf, Instr.sureAddr, fieldPlace, run_szOf hs, add_plain]
  cases hp <;> simp only [reduceCtorEq, Option.some.injEq] at hv <;> subst hv
  case elem sz n fn i off b o x hi hs hc h1 hr => exact ⟨_, key _ _, by rw [Nat.add_assoc]; exact .elem _ sz n fn i _ b o x hi hs hc h1 hr⟩
  case ptr r off b hg => exact ⟨_, key _ _, .ptr _ r _ b hg⟩
  case oelem r sz i off b n cap hg => exact ⟨_, key _ _, by rw [Nat.add_assoc]; exact .oelem _ r sz i _ b n cap hg⟩

def indexAddrV (P : Program) (h : Heap) (t : TypeId) (p ix : V) : Option (V × Prop) :=
  match P.underlying t, ix with
  | some (.slice e), .int _ i => match p with
    | .arr sz n f => if szOf P e = some sz then some (.elem sz n f i.toNat 0, 0 ≤ i ∧ i < n) else none
    | .own r => match h.get r with
      | some (.rows _ sz n _) => if szOf P e = some sz then some (.oelem r sz i.toNat 0, 0 ≤ i ∧ i < n) else none
      | _ => none
    | .osl r sz i0 n => if szOf P e = some sz then some (.oelem r sz (i0 + i.toNat) 0, 0 ≤ i ∧ i < n) else none
    | _ => none
  | some (.array len e), .int _ i => match p, szOf P e with
    | .ptr r off, some sz => some (.ptr r (off + i.toNat * sz), 0 ≤ i ∧ i < len)
    | .elem sz0 _ f j off, some sz => if off + len * sz ≤ sz0 then some (.elem sz len (fun a c => f j (off + a * sz + c)) i.toNat 0, 0 ≤ i ∧ i < len) else none
    | .oelem r sz0 j off, some sz => some (.oelem r sz0 j (off + i.toNat * sz), 0 ≤ i ∧ i < len)
    | _, _ => none
  | _, _ => none

theorem run_indexAddrV {P : Program} {St : Nat → Prop} {w : World} {g : Gh} {h : Heap} (hb : BOk St w g h) {t : TypeId} {p ix v : V} {φ : Prop} {x y : Value}
    (hp : Rel St w g p x) (hi : Rel St w g ix y) (hv : indexAddrV P h t p ix = some (v, φ)) (hφ : φ) : ∃ z, (Instr.indexAt t x y).run P w = .ok z w ∧ Rel St w g v z := by
  unfold indexAddrV at hv
  split at hv
  · rename_i e k i hu
    have := hi.int_inv; subst this
    split at hv
    · rename_i sz n f
      split at hv
      · rename_i hs
        cases hv
        obtain ⟨h0, h1⟩ := hφ
        cases hp with
        | arr0 => omega
        | arr _ _ _ _ b o cap x hcap hmax hS hc h1c hr =>
          refine ⟨.pointer (some ⟨b, o + i.toNat * sz + 0, none⟩), ?_, .elem _ sz n f i.toNat 0 b o x (by omega) (fun hz => hS (by omega) hz) hc h1c hr⟩
          simp [Instr.indexAt, asIntOf, run_underlying hu, h0, h1, run_szOf hs, add_plain]
      · cases hv
    · rename_i r
      split at hv
      · rename_i e' sz n f hh
        split at hv
        · rename_i hs
          cases hv
          obtain ⟨h0, h1⟩ := hφ
          obtain ⟨u, hgu, xs, ho, hr, h1c⟩ := hb r _ hh
          have hx := hp.own_inv
          rw [hx] at hgu; cases hgu
          rcases ho.2 with ⟨rfl, hn⟩ | ⟨b, cap, cur, rfl, _, hg, hncap, hcapm, hsz, htake⟩
          · subst hn; omega
          · refine ⟨.pointer (some ⟨b, i.toNat * sz + 0, none⟩), ?_, .oelem _ r sz i.toNat 0 b n cap hx⟩
            simp [Instr.indexAt, asIntOf, run_underlying hu, h0, h1, run_szOf hs, add_plain]
        · cases hv
      · cases hv
    · rename_i r sz i0 n
      split at hv
      case isFalse => cases hv
      rename_i hs
      cases hv
      obtain ⟨h0, h1⟩ := hφ
      cases hp with
      | osl _ _ _ _ _ b n0 cap h =>
        obtain ⟨hg, hle, hb0⟩ := h
        cases b with
        | none => have := hb0 rfl; omega
        | some b =>
          refine ⟨.pointer (some ⟨b, (i0 + i.toNat) * sz + 0, none⟩), ?_, .oelem _ r sz (i0 + i.toNat) 0 b n0 cap hg⟩
          have hne : ¬ cap = i0 := by omega
          simp [Instr.indexAt, asIntOf, run_underlying hu, h0, h1, run_szOf hs, add_plain, hne, Nat.add_mul]
    · cases hv
  · rename_i len e k i hu
    have := hi.int_inv; subst this
    have key : ∀ (b o sz : Nat), szOf P e = some sz → 0 ≤ i ∧ i < len → (Instr.indexAt t (.pointer (some ⟨b, o, none⟩)) (.int k i)).run P w = .ok (.pointer (some ⟨b, o + i.toNat * sz, none⟩)) w := by
      intro b o sz hs hlt
      simp [Instr.indexAt, asIntOf, run_underlying hu, Instr.sureAddr, hlt.1, hlt.2, run_szOf hs, add_plain]
    split at hv
    · rename_i r off sz hs
      cases hv
      cases hp with
      | ptr _ _ _ b hg => exact ⟨_, key b off sz hs hφ, .ptr _ r _ b hg⟩
    · rename_i sz0 n f j off sz hs
      split at hv
      case isFalse => cases hv
      rename_i hle
      cases hv
      cases hp with
      | elem _ _ _ _ _ _ b o x hi hS hc h1 hr =>
        have hlt : ∀ a c, a < len → c < sz → off + a * sz + c < sz0 := by
          intro a c ha hcc
          have := idx_lt ha hcc
          omega
        have := Rel.elem (St := St) (w := w) g sz len (fun a c => f j (off + a * sz + c)) i.toNat 0 b (o + j * sz0 + off) (fun a c => x j (off + a * sz + c)) (by omega) (fun hz => hS (by have := hlt i.toNat 0 (by omega) hz; omega))
          (fun a c ha hcc => by
            have := hc j (off + a * sz + c) hi (hlt a c ha hcc)
            rw [show o + j * sz0 + off + a * sz + c = o + j * sz0 + (off + a * sz + c) by omega]; exact this)
          (fun a c ha hcc => h1 j _ hi (hlt a c ha hcc)) (fun a c ha hcc => hr j _ hi (hlt a c ha hcc))
        exact ⟨_, key b _ sz hs hφ, by simpa using this⟩
    · rename_i r sz0 j off sz hs
      cases hv
      cases hp with
      | oelem _ _ _ _ _ b n cap hg => exact ⟨_, key b _ sz hs hφ, by rw [Nat.add_assoc]; exact .oelem _ r sz0 j _ b n cap hg⟩
    · cases hv
  · cases hv

/-! ### Parts of structs and arrays by value; strings -/
def partV (P : Program) (t : TypeId) (cs : List V) (off : Nat) : Option V := takeV P t cs.length (fun j => cs.getD j .any) off

theorem run_partV {P : Program} {St : Nat → Prop} {w : World} {g : Gh} {t : TypeId} {cs : List V} {off : Nat} {v : V} (h : partV P t cs off = some v) {vs : Array Value} (hl : vs.size = cs.length)
    (hr : ∀ i, i < cs.length → Rel St w g (cs.getD i .any) (vs.getD i undef)) : ∃ y, (part t vs off).run P w = .ok y w ∧ Rel St w g v y := by
  unfold partV takeV at h
  split at h
  · rename_i k ha hs
    split at h
    · rename_i hle
      cases h
      refine ⟨.agg (vs.extract off (off + k)), ?_, ?_⟩
      · simp [part, run_aggT ha, run_szOf hs]
      · refine .agg _ _ _ (by simp; omega) fun i hi => ?_
        have hi' : i < k := by simpa using hi
        have h2 := hr (off + i) (by omega)
        have h3 : off + i < vs.size := by omega
        have h4 : i < min (off + k) vs.size - off := by omega
        simpa [hi', h3, h4] using h2
    · cases h
  · rename_i k ha hs
    split at h
    · rename_i hlt
      cases h
      refine ⟨vs.getD off undef, ?_, hr off hlt⟩
      have : off < vs.size := by omega
      simp [part, run_aggT ha, this]
    · cases h
  · cases h

def fieldV (P : Program) (st : TypeId) (fld : Nat) : V → Option V
  | .agg cs => match P.underlying st with
    | some (.struct fields) => match fields[fld]? with
      | some f => partV P f.type cs f.offset
      | none => none
    | _ => none
  | _ => none
theorem run_fieldV {P : Program} {St : Nat → Prop} {w : World} {g : Gh} {st : TypeId} {fld : Nat} {p v : V} {x : Value}
    (hp : Rel St w g p x) (hv : fieldV P st fld p = some v) : ∃ y, (Instr.field st x fld).run P w = .ok y w ∧ Rel St w g v y := by
  cases p <;> simp only [fieldV, reduceCtorEq] at hv
  split at hv
  case h_2 => cases hv
  rename_i fields hu
  split at hv
  case h_2 => cases hv
  rename_i f hf
  obtain ⟨vs, rfl, hl, hr⟩ := hp.agg_inv
  obtain ⟨y, hy, hr'⟩ := run_partV hv hl hr
  exact ⟨y, by simp [Instr.field, run_underlying hu, hf, asAgg, hy], hr'⟩

def indexV (P : Program) (t : TypeId) (p ix : V) : Option (V × Prop) :=
  match P.underlying t, p, ix with
  | some .string, .str l, .int _ i => some (.int .u8 ((l.getD i.toNat 0).toNat : Int), 0 ≤ i ∧ i < l.length)
  | some (.array len e), .agg cs, .int _ i => match szOf P e with
    | some sz => (partV P e cs (i.toNat * sz)).map fun v => (v, 0 ≤ i ∧ i < len)
    | none => none
  | _, _, _ => none
theorem run_indexV {P : Program} {St : Nat → Prop} {w : World} {g : Gh} {t : TypeId} {p ix v : V} {φ : Prop} {x y : Value}
    (hp : Rel St w g p x) (hi : Rel St w g ix y) (hv : indexV P t p ix = some (v, φ)) (hφ : φ) : ∃ z, (Instr.index t x y).run P w = .ok z w ∧ Rel St w g v z := by
  unfold indexV at hv
  split at hv
  · rename_i l k i hu
    cases hv
    have := hi.int_inv; subst this
    obtain ⟨s, rfl, rfl⟩ := hp.str_inv
    obtain ⟨h0, h1⟩ := hφ
    have hlt : i.toNat < s.size := by simp at h1; omega
    refine ⟨.int .u8 (s[i.toNat].toNat : Int), by simp [Instr.index, asIntOf, run_underlying hu, h0, hlt], ?_⟩
    have e : s.data.toList.getD i.toNat 0 = s[i.toNat] := by
      have h' : i.toNat < s.data.size := hlt
      rw [List.getD_eq_getElem?_getD, Array.getElem?_toList, Array.getElem?_eq_getElem h']; rfl
    rw [e]
    exact .int _ _ _
  · rename_i len e cs k i hu
    have := hi.int_inv; subst this
    split at hv
    · rename_i sz hs
      rw [Option.map_eq_some_iff] at hv
      obtain ⟨v', hv', he⟩ := hv
      cases he
      obtain ⟨vs, rfl, hl, hr⟩ := hp.agg_inv
      obtain ⟨y, hy, hr'⟩ := run_partV hv' hl hr
      exact ⟨y, by simp [Instr.index, asIntOf, run_underlying hu, hφ.1, hφ.2, run_szOf hs, hy], hr'⟩
    · cases hv
  · cases hv

end Go.Abs
namespace Go.Abs
open Go

/-! ### Slicing -/
def bnd : Option V → Option (Option Int)
  | none => some none
  | some (.int _ n) => some (some n)
  | _ => none

/-- low, high, maximum against a length 'n' (and, for a string, a capacity 'n'): the new low and high, and what must hold. -/
def bnds (n : Nat) (lo hi mx : Option Int) : Nat × Nat × Prop :=
  match lo, hi, mx with
  | none, none, none => (0, n, True)
  | some a, none, none => (a.toNat, n, 0 ≤ a ∧ a ≤ n)
  | none, some b, none => (0, b.toNat, 0 ≤ b ∧ b ≤ n)
  | some a, some b, none => (a.toNat, b.toNat, 0 ≤ a ∧ a ≤ b ∧ b ≤ n)
  | some a, some b, some c => (a.toNat, b.toNat, 0 ≤ a ∧ a ≤ b ∧ b ≤ c ∧ c ≤ n)
  | none, some b, some c => (0, b.toNat, 0 ≤ b ∧ b ≤ c ∧ c ≤ n)
  | _, none, some _ => (0, 0, False)

theorem run_sliceBounds {P : Program} {w : World} {St : Nat → Prop} {g : Gh} {s : Bool} {n cap : Nat} (hcap : n ≤ cap) {lo hi mx : Option V} {l h m : Option Int}
    (hl : bnd lo = some l) (hh : bnd hi = some h) (hm : bnd mx = some m) {x y z : Option Value}
    (rx : ∀ v, lo = some v → ∃ u, x = some u ∧ Rel St w g v u) (ry : ∀ v, hi = some v → ∃ u, y = some u ∧ Rel St w g v u) (rz : ∀ v, mx = some v → ∃ u, z = some u ∧ Rel St w g v u)
    (nx : lo = none → x = none) (ny : hi = none → y = none) (nz : mx = none → z = none)
    (hφ : (bnds n l h m).2.2) : ∃ c, (Instr.sliceBounds s n cap x y z).run P w = .ok ((bnds n l h m).1, (bnds n l h m).2.1, c) w ∧ (bnds n l h m).1 ≤ (bnds n l h m).2.1 ∧ (bnds n l h m).2.1 ≤ n ∧ (bnds n l h m).2.1 ≤ c ∧ (mx = none → c = cap) := by
  have inv : ∀ {o : Option V} {i : Option Int} {u : Option Value}, bnd o = some i → (∀ v, o = some v → ∃ t, u = some t ∧ Rel St w g v t) → (o = none → u = none) →
      (i = none ∧ o = none ∧ u = none) ∨ ∃ k a, i = some a ∧ (∃ k', o = some (.int k' a)) ∧ u = some (.int k a) := by
    intro o i u ho hr hn
    cases o with
    | none => simp [bnd] at ho; exact .inl ⟨ho.symm, rfl, hn rfl⟩
    | some v =>
      cases v <;> simp [bnd] at ho
      case int k a =>
        obtain ⟨t, ht, hrel⟩ := hr _ rfl
        have := hrel.int_inv; subst this
        exact .inr ⟨k, a, ho.symm, ⟨k, rfl⟩, ht⟩
  rcases inv hl rx nx with ⟨rfl, rfl, rfl⟩ | ⟨k1, a, rfl, ⟨_, rfl⟩, rfl⟩ <;>
  rcases inv hh ry ny with ⟨rfl, rfl, rfl⟩ | ⟨k2, b, rfl, ⟨_, rfl⟩, rfl⟩ <;>
  rcases inv hm rz nz with ⟨rfl, rfl, rfl⟩ | ⟨k3, c, rfl, ⟨_, rfl⟩, rfl⟩ <;>
  simp only [bnds] at hφ ⊢
  case inl.inl.inl => exact ⟨cap, by simp [Instr.sliceBounds], by omega, by omega, by omega, fun _ => rfl⟩
  case inr.inl.inl =>
    refine ⟨cap, ?_, by omega, by omega, by omega, fun _ => rfl⟩
    simp [Instr.sliceBounds, run_sliceBound _ _ _ _ _ hφ.1 hφ.2]
  case inl.inr.inl =>
    refine ⟨cap, ?_, by omega, by omega, by omega, fun _ => rfl⟩
    simp [Instr.sliceBounds, run_sliceBound _ _ _ _ _ hφ.1 (show b ≤ (cap : Int) by omega)]
  case inr.inr.inl =>
    refine ⟨cap, ?_, by omega, by omega, by omega, fun _ => rfl⟩
    have e : (b.toNat : Int) = b := Int.toNat_of_nonneg (by omega)
    simp [Instr.sliceBounds, run_sliceBound _ _ _ _ _ (show 0 ≤ b by omega) (show b ≤ (cap : Int) by omega), run_sliceBound _ _ _ _ _ hφ.1 (show a ≤ (b.toNat : Int) by omega)]
  case inl.inr.inr =>
    refine ⟨c.toNat, ?_, by omega, by omega, by omega, by simp⟩
    simp [Instr.sliceBounds, run_sliceBound _ _ _ _ _ (show 0 ≤ c by omega) (show c ≤ (cap : Int) by omega), run_sliceBound _ _ _ _ _ hφ.1 (show b ≤ (c.toNat : Int) by omega)]
  case inr.inr.inr =>
    refine ⟨c.toNat, ?_, by omega, by omega, by omega, by simp⟩
    simp [Instr.sliceBounds, run_sliceBound _ _ _ _ _ (show 0 ≤ c by omega) (show c ≤ (cap : Int) by omega), run_sliceBound _ _ _ _ _ (show 0 ≤ b by omega) (show b ≤ (c.toNat : Int) by omega), run_sliceBound _ _ _ _ _ hφ.1 (show a ≤ (b.toNat : Int) by omega)]

def subStr (l : List UInt8) (lo hi : Option Int) : List UInt8 :=
  match lo, hi with
  | none, none => l
  | some a, none => l.drop a.toNat
  | none, some b => l.take b.toNat
  | some a, some b => (l.take b.toNat).drop a.toNat
def subF (f : Nat → Nat → V) (lo : Option Int) : Nat → Nat → V :=
  match lo with
  | none => f
  | some a => fun i j => f (i + a.toNat) j
def subN (n : Nat) (lo hi : Option Int) : Nat :=
  match lo, hi with
  | none, none => n
  | some a, none => n - a.toNat
  | none, some b => b.toNat
  | some a, some b => b.toNat - a.toNat

def sliceV (P : Program) (t : TypeId) (x : V) (lo hi mx : Option V) : Option (V × Prop) :=
  match P.underlying t, x, bnd lo, bnd hi, bnd mx with
  | some .string, .str l, some a, some b, some none => some (.str (subStr l a b), (bnds l.length a b none).2.2)
  | some (.slice e), .arr sz n f, some a, some b, some c => if szOf P e = some sz then some (.arr sz (subN n a b) (subF f a), (bnds n a b c).2.2) else none
  | some (.slice e), .nils, some a, some b, some c => match szOf P e with
    | some _ => some (.nils, (bnds 0 a b c).2.2)
    | none => none
  | _, _, _, _, _ => none

theorem run_sliceV {P : Program} {St : Nat → Prop} {w : World} {g : Gh} {t : TypeId} {p v : V} {lo hi mx : Option V} {φ : Prop} {u : Value} {x y z : Option Value}
    (hp : Rel St w g p u) (rx : ∀ v, lo = some v → ∃ u, x = some u ∧ Rel St w g v u) (ry : ∀ v, hi = some v → ∃ u, y = some u ∧ Rel St w g v u) (rz : ∀ v, mx = some v → ∃ u, z = some u ∧ Rel St w g v u)
    (nx : lo = none → x = none) (ny : hi = none → y = none) (nz : mx = none → z = none)
    (hv : sliceV P t p lo hi mx = some (v, φ)) (hφ : φ) : ∃ r, (Instr.sliceAt t u x y z).run P w = .ok r w ∧ Rel St w g v r := by
  unfold sliceV at hv
  split at hv
  · rename_i l a b hu hl hh hm
    cases hv
    obtain ⟨s, rfl, rfl⟩ := hp.str_inv
    have hsz : s.data.toList.length = s.size := by simp
    rw [hsz] at hφ
    have hmx : mx = none := by
      cases mx with
      | none => rfl
      | some v => cases v <;> simp [bnd] at hm
    subst hmx
    obtain rfl := nz rfl
    obtain ⟨c, hrun, h1, h2, h3, h4⟩ := run_sliceBounds (P := P) (s := false) (Nat.le_refl s.size) hl hh hm rx ry rz nx ny nz hφ
    refine ⟨.string (s.extract (bnds s.size a b none).1 (bnds s.size a b none).2.1), ?_, .str _ _ _ ?_⟩
    · rw [run_sliceAt_string _ _ _ _ _ _ hu]
      simp [Instr.slice, run_underlying hu, hrun]
    · have key : ∀ i j, (s.extract i j).data.toList = (s.data.toList.take j).drop i := by
        intro i j
        rw [ByteArray.data_extract, Array.toList_extract, List.extract_eq_take_drop, List.drop_take]
      rw [key]
      have hlen : s.data.toList.take s.size = s.data.toList := List.take_of_length_le (by simp)
      cases a <;> cases b <;> simp [bnds, subStr, hlen]
  · rename_i e sz n f a b c hu hl hh hm
    split at hv
    case isFalse => cases hv
    rename_i hs
    cases hv
    have he : P.elem t = e := by simp [Program.elem, hu]
    have fin : ∀ (lo' : Nat) (hi' : Nat), (bnds n a b c).1 = lo' → (bnds n a b c).2.1 = hi' → subN n a b = hi' - lo' ∧ subF f a = (fun i j => f (i + lo') j) := by
      intro lo' hi' h1 h2
      subst h1; subst h2
      cases a <;> cases b <;> cases c <;> simp [bnds, subN, subF] <;> simp [bnds] at hφ
    obtain ⟨hN, hF⟩ := fin _ _ rfl rfl
    rw [hN, hF]
    cases hp with
    | arr0 =>
      obtain ⟨m, hrun, h1, h2, h3, h4⟩ := run_sliceBounds (P := P) (s := true) (Nat.le_refl 0) hl hh hm rx ry rz nx ny nz hφ
      have e1 : (bnds 0 a b c).2.1 = 0 := by omega
      have e0 : (bnds 0 a b c).1 = 0 := by omega
      refine ⟨.slice none 0 (m - 0), ?_, ?_⟩
      · rw [run_sliceAt_slice _ _ _ _ _ _ (by rw [he]; exact hu)]
        simp [Instr.slice, run_underlying hu, hrun, run_szOf hs, e0, e1]
      · have hm0 : m = 0 := by
          rcases hmx : mx with _ | v
          · exact h4 hmx
          · have := rz v hmx
            cases v <;> simp [hmx, bnd] at hm
            rename_i k i
            subst hm
            obtain ⟨u, hz, hu'⟩ := this
            have := hu'.int_inv; subst this
            subst hz
            have hc0 : 0 ≤ i ∧ i ≤ 0 := by cases a <;> cases b <;> simp [bnds] at hφ <;> omega
            have hi0 : i = 0 := by omega
            subst hi0
            cases hy : y with
            | none => simp [Instr.sliceBounds, hy, run_sliceBound] at hrun
            | some yv => 
              simp [Instr.sliceBounds, hy, run_sliceBound] at hrun
              cases h5 : (Instr.sliceBound yv 0 .slice3B).run P w with
              | halt x1 x2 => simp [h5, Result.andThen] at hrun
              | ok x1 x2 =>
                simp [h5] at hrun
                cases hx : x with
                | none => simp [hx] at hrun; exact hrun.1.2.2.symm
                | some xv =>
                  simp [hx] at hrun
                  cases h6 : (Instr.sliceBound xv x1 .slice3C).run P x2 with
                  | halt x3 x4 => simp [h6, Result.andThen] at hrun
                  | ok x3 x4 => simp [h6] at hrun; exact hrun.1.2.2.symm
        subst hm0
        rw [e0, e1]
        exact .arr0 _ _ _
    | arr _ _ _ _ bb o cap xx hcap hmax hS hc h1c hr =>
      obtain ⟨m, hrun, h1, h2, h3, h4⟩ := run_sliceBounds (P := P) (s := true) hcap hl hh hm rx ry rz nx ny nz hφ
      generalize (bnds n a b c).1 = lo' at *
      generalize (bnds n a b c).2.1 = hi' at *
      refine ⟨.slice (if m = lo' then some ⟨bb, o, none⟩ else some ⟨bb, o + lo' * sz, none⟩) (hi' - lo') (m - lo'), ?_, ?_⟩
      · rw [run_sliceAt_slice _ _ _ _ _ _ (by rw [he]; exact hu)]
        simp [Instr.slice, run_underlying hu, hrun, run_szOf hs, add_plain]
      · by_cases hml : m = lo'
        · rw [if_pos hml]
          have hn0 : hi' - lo' = 0 := by omega
          rw [hn0]
          exact .arr _ sz 0 _ bb o _ (fun _ _ => undef) (by omega) (by omega) (by omega) (fun i j hi _ => by omega) (fun i j hi _ => by omega) (fun i j hi _ => by omega)
        · rw [if_neg hml]
          refine .arr _ sz (hi' - lo') _ bb (o + lo' * sz) _ (fun i j => xx (i + lo') j) (by omega) (by omega) (fun h0 hz => hS (by omega) hz) (fun i j hi hj => ?_) (fun i j hi hj => h1c _ _ (by omega) hj) (fun i j hi hj => hr _ _ (by omega) hj)
          have := hc (i + lo') j (by omega) hj
          rw [← this]
          congr 2
          rw [Nat.add_mul]; omega
  · rename_i e a b c hu hl hh hm
    split at hv
    case h_2 => cases hv
    rename_i k hs
    cases hv
    have := hp.nils_inv; subst this
    have he : P.elem t = e := by simp [Program.elem, hu]
    obtain ⟨m, hrun, h1, h2, h3, h4⟩ := run_sliceBounds (P := P) (s := true) (Nat.le_refl 0) hl hh hm rx ry rz nx ny nz hφ
    have e1 : (bnds 0 a b c).2.1 = 0 := by omega
    have e0 : (bnds 0 a b c).1 = 0 := by omega
    have hm0 : m = 0 := by
      rcases hmx : mx with _ | v
      · exact h4 hmx
      · have := rz v hmx
        cases v <;> simp [hmx, bnd] at hm
        rename_i k i
        subst hm
        obtain ⟨u, hz, hu'⟩ := this
        have := hu'.int_inv; subst this
        subst hz
        have hc0 : 0 ≤ i ∧ i ≤ 0 := by cases a <;> cases b <;> simp [bnds] at hφ <;> omega
        have hi0 : i = 0 := by omega
        subst hi0
        cases hy : y with
        | none => simp [Instr.sliceBounds, hy, run_sliceBound] at hrun
        | some yv => 
          simp [Instr.sliceBounds, hy, run_sliceBound] at hrun
          cases h5 : (Instr.sliceBound yv 0 .slice3B).run P w with
          | halt x1 x2 => simp [h5, Result.andThen] at hrun
          | ok x1 x2 =>
            simp [h5] at hrun
            cases hx : x with
            | none => simp [hx] at hrun; exact hrun.1.2.2.symm
            | some xv =>
              simp [hx] at hrun
              cases h6 : (Instr.sliceBound xv x1 .slice3C).run P x2 with
              | halt x3 x4 => simp [h6, Result.andThen] at hrun
              | ok x3 x4 => simp [h6] at hrun; exact hrun.1.2.2.symm
    subst hm0
    refine ⟨.slice none 0 0, ?_, .nils _⟩
    rw [run_sliceAt_slice _ _ _ _ _ _ (by rw [he]; exact hu)]
    simp [Instr.slice, run_underlying hu, hrun, run_szOf hs, e0, e1]
  · cases hv

/-! ### Equality -/
def eqV (P : Program) : Nat → TypeId → V → V → Option Bool
  | 0, _, _, _ => none
  | d + 1, t, x, y =>
    match P.underlying t, x, y with
    | some .bool, .bool a, .bool b => some (a == b)
    | some (.int _), .int k a, .int k' b => if k = k' then some (a == b) else none
    | some (.int _), .b16 a, .b16 b => some (a == b)
    | some .string, .str a, .str b => some (a == b)
    | some (.struct fields), .agg xs, .agg ys =>
      if P.stoodInHeld t = false then
        fields.toList.foldr (fun f acc =>
          if f.name = "_" then acc else
          match partV P f.type xs f.offset, partV P f.type ys f.offset, acc with
          | some a, some b, some r => match eqV P d f.type a b with
            | some q => some (q && r)
            | none => none
          | _, _, _ => none) (some true)
      else none
    | _, _, _ => none

theorem b16_beq (x y : BitVec 16) : ((x.toNat : Int) == (y.toNat : Int)) = (x == y) := by
  rw [Bool.eq_iff_iff, beq_iff_eq, beq_iff_eq]; exact ⟨fun h => BitVec.eq_of_toNat_eq (by omega), fun h => by rw [h]⟩

theorem run_eqV {P : Program} {St : Nat → Prop} {w : World} {g : Gh} : ∀ (d : Nat) {t : TypeId} {x y : V} {r : Bool} {a b : Value}, eqV P d t x y = some r → Rel St w g x a → Rel St w g y b →
    (Op.equalIn d t a b).run P w = .ok r w := by
  intro d
  induction d with
  | zero => intro t x y r a b h; simp [eqV] at h
  | succ d ih =>
    intro t x y r a b h ha hb
    unfold eqV at h
    split at h
    · rename_i p q hu
      have := ha.bool_inv; subst this; have := hb.bool_inv; subst this
      cases h; exact run_equalIn_bool' w d t p q hu
    · rename_i k0 k p k' q hu
      split at h
      · rename_i hk; subst hk; cases h
        have := ha.int_inv; subst this; have := hb.int_inv; subst this
        exact run_equalIn_int w d t k k0 p q hu
      · cases h
    · rename_i k0 p q hu
      cases h
      have := ha.b16_inv; subst this; have := hb.b16_inv; subst this
      rw [← b16_beq]
      exact run_equalIn_int w d t .u16 k0 _ _ hu
    · rename_i p q hu
      cases h
      obtain ⟨s, rfl, rfl⟩ := ha.str_inv; obtain ⟨s', rfl, rfl⟩ := hb.str_inv
      rw [run_equalIn_string w d t s s' hu, ByteArray.toList_eq, ByteArray.toList_eq]
    · rename_i fields xs ys hu
      split at h
      case isFalse => cases h
      rename_i hst
      obtain ⟨vx, rfl, hlx, hrx⟩ := ha.agg_inv; obtain ⟨vy, rfl, hly, hry⟩ := hb.agg_inv
      have hfo : P.fieldsOf t = fields := by simp [Program.fieldsOf, hu]
      rw [run_equalIn_struct w d t vx vy (by rw [hfo]; exact hu) hst, hfo]
      generalize fields.toList = fs at h
      clear hfo hu
      induction fs generalizing r with
      | nil => simp at h; subst h; simp [Op.eqFields]
      | cons f fs ihf =>
        simp only [List.foldr_cons] at h
        simp only [Op.eqFields]
        by_cases hn : f.name = "_"
        · rw [if_pos hn] at h
          rw [if_neg (by simpa using hn)]
          exact ihf h
        · rw [if_neg hn] at h
          rw [if_pos (by simpa using hn)]
          split at h
          case h_2 => cases h
          rename_i pa pb pr e1 e2 e3
          split at h
          case h_2 => cases h
          rename_i q e4
          cases h
          obtain ⟨ya, hya, hra⟩ := run_partV e1 hlx hrx
          obtain ⟨yb, hyb, hrb⟩ := run_partV e2 hly hry
          have hq := ih e4 hra hrb
          have hrest := ihf e3
          simp only [Sem.run_bind, hya, hyb, hq, Result.andThen_ok, Sem.run_ite, Sem.run_pure, hrest]
          cases q <;> simp
    · cases h

def eqlV (P : Program) (op : BinOp) (t : TypeId) (x y : V) : Option (V × Prop) :=
  match op with
  | .eql => if P.eqGuardType P.depth t = false then (eqV P 10000 t x y).map fun b => (.bool b, True) else none
  | .neq => if P.eqGuardType P.depth t = false then (eqV P 10000 t x y).map fun b => (.bool (!b), True) else none
  | _ => none

/-- Operators. -/
def opV (P : Program) (wm : Bool) (op : BinOp) (t : TypeId) : V → V → Option (V × Prop)
  | .agg xs, .agg ys => eqlV P op t (.agg xs) (.agg ys)
  | .bool a, .bool b => match P.underlying t with
    | some .bool => match op with
      | .eql => some (.bool (a == b), True)
      | .neq => some (.bool (!(a == b)), True)
      | _ => none
    | _ => none
  | .arr _ n _, .nils => match P.underlying t with
    | some (.slice _) => match op with
      | .eql => some (.abool (fun b => b = true → n = 0), True)
      | .neq => some (.abool (fun b => b = false → n = 0), True)
      | _ => none
    | _ => none
  | .nils, .nils => match P.underlying t with
    | some (.slice _) => match op with
      | .eql => some (.bool true, True)
      | .neq => some (.bool false, True)
      | _ => none
    | _ => none
  | x, y => binV wm op x y

theorem run_binV {P : Program} {St : Nat → Prop} {w : World} {g : Gh} {wm : Bool} {op : BinOp} {t : TypeId} {x y v : V} {φ : Prop} {a b : Value} (hx : Rel St w g x a) (hy : Rel St w g y b)
    (hv : binV wm op x y = some (v, φ)) (hφ : φ) : ∃ r, (binOp op t a b).run P w = .ok r w ∧ (∀ St g, Rel St w g v r) ∧ a ≠ .nilIface ∧ (∀ cs, a ≠ .agg cs) := by
  unfold binV at hv
  split at hv
  · rename_i k a' k' b'
    have := hx.int_inv; subst this; have := hy.int_inv; subst this
    split at hv
    · obtain ⟨r, h1, h2⟩ := run_shiftV P w (t := t) (k' := k') hv hφ; exact ⟨r, h1, h2, by simp, by simp⟩
    · obtain ⟨r, h1, h2⟩ := run_shiftV P w (t := t) (k' := k') hv hφ; exact ⟨r, h1, h2, by simp, by simp⟩
    · split at hv
      · rename_i hk; subst hk
        obtain ⟨r, h1, h2⟩ := run_intV P w (t := t) hv hφ; exact ⟨r, h1, h2, by simp, by simp⟩
      · cases hv
  · rename_i x' y'
    have := hx.b16_inv; subst this; have := hy.b16_inv; subst this
    obtain ⟨r, h1, h2⟩ := run_b16V P w (t := t) hv; exact ⟨r, h1, h2, by simp, by simp⟩
  · rename_i x' k b'
    have := hx.b16_inv; subst this; have := hy.int_inv; subst this
    have key : ∀ (n : Int) (z : BitVec 16), BitVec.ofInt 16 n = z → ∀ St g, Rel St w g (.b16 z) (.int .u16 (IntKind.u16.wrap n)) := by
      intro n z hz St g; rw [wrap_u16, hz]; exact .b16 _ _
    split at hv
    · cases hv
      refine ⟨_, by simp [binOp, Op.shift, show ¬ b' < 0 by omega]; rfl, key _ _ ?_, by simp, by simp⟩
      apply BitVec.eq_of_toNat_eq
      rw [BitVec.toNat_ofInt, BitVec.toNat_shiftLeft, Nat.shiftLeft_eq]
      have e : ((x'.toNat : Int) * 2 ^ min b'.toNat IntKind.u16.bits) = ((x'.toNat * 2 ^ min b'.toNat 16 : Nat) : Int) := by simp [IntKind.bits]
      rw [e]
      have e3 : x'.toNat * 2 ^ b'.toNat % 2 ^ 16 = x'.toNat * 2 ^ min b'.toNat 16 % 2 ^ 16 := by
        by_cases h16 : b'.toNat ≤ 16
        · rw [Nat.min_eq_left h16]
        · rw [Nat.min_eq_right (by omega)]
          have : ∃ c, b'.toNat = 16 + c := ⟨b'.toNat - 16, by omega⟩
          obtain ⟨c, hc⟩ := this
          rw [hc, Nat.pow_add, ← Nat.mul_assoc, Nat.mul_right_comm, Nat.mul_mod_left, Nat.mul_mod_left]
      rw [e3]
      generalize x'.toNat * 2 ^ min b'.toNat 16 = n
      simp; omega
    · cases hv
      refine ⟨_, by simp [binOp, Op.shift, show ¬ b' < 0 by omega]; rfl, fun St g => ?_, by simp, by simp⟩
      have e : Int.fdiv (x'.toNat : Int) (2 ^ min b'.toNat IntKind.u16.bits) = ((x' >>> b'.toNat).toNat : Int) := by
        rw [Int.fdiv_eq_ediv_of_nonneg _ (Int.le_of_lt (Int.pow_pos (by decide)))]
        rw [BitVec.toNat_ushiftRight, Nat.shiftRight_eq_div_pow]
        have hx := x'.isLt
        by_cases h16 : b'.toNat ≤ 16
        · rw [show min b'.toNat IntKind.u16.bits = b'.toNat from Nat.min_eq_left h16]; simp
        · rw [show min b'.toNat IntKind.u16.bits = 16 from Nat.min_eq_right (by simp [IntKind.bits]; omega)]
          rw [Nat.div_eq_of_lt (Nat.lt_of_lt_of_le hx (Nat.pow_le_pow_right (by decide) (by omega)))]
          have : (x'.toNat : Int) / 2 ^ 16 = 0 := Int.ediv_eq_zero_of_lt (by omega) (by simpa using (by omega : (x'.toNat : Int) < 65536))
          rw [this]; rfl
      rw [e]; exact .b16 _ _
    · cases hv
  · rename_i a' b'
    obtain ⟨s, rfl, rfl⟩ := hx.str_inv; obtain ⟨s', rfl, rfl⟩ := hy.str_inv
    obtain ⟨r, h1, h2⟩ := run_strV P w (t := t) hv hφ; exact ⟨r, h1, h2, by simp, by simp⟩
  · cases hv

theorem run_equalIn_nil (P : Program) (w : World) (d : Nat) (t : TypeId) (p : Option Addr) (l c : Nat) {e : TypeId} (hb : P.underlying t = some (.slice e)) : (Op.equalIn (d + 1) t (.slice p l c) (.slice none 0 0)).run P w = .ok p.isNone w := by
  cases p <;> simp [Op.equalIn, run_underlying hb]
theorem run_nileq (P : Program) (w : World) (t : TypeId) (p : Option Addr) (l c : Nat) {e : TypeId} (hb : P.underlying t = some (.slice e)) (op : BinOp) (X Y : Operand) (ho : op = .eql ∨ op = .neq) :
    ((eqGuard op t X Y (.slice p l c) (.slice none 0 0)).run P w).andThen (fun _ w => (binOp op t (.slice p l c) (.slice none 0 0)).run P w) = .ok (.bool (if op = .eql then p.isNone else !p.isNone)) w := by
  have h' : (Op.equal t (.slice p l c) (.slice none 0 0)).run P w = .ok p.isNone w := run_equalIn_nil P w 9999 t p l c hb
  rcases ho with rfl | rfl
  · simp [eqGuard, binOp, h']
  · simp [eqGuard, binOp, h']

theorem run_opV {P : Program} {St : Nat → Prop} {w : World} {g : Gh} {wm : Bool} {op : BinOp} {t : TypeId} {x y v : V} {φ : Prop} {a b : Value} {X Y : Operand} (hx : Rel St w g x a) (hy : Rel St w g y b)
    (hv : opV P wm op t x y = some (v, φ)) (hφ : φ) : ∃ r, (do eqGuard op t X Y a b; binOp op t a b : Sem Value).run P w = .ok r w ∧ Rel St w g v r := by
  unfold opV at hv
  split at hv
  · rename_i xs ys
    obtain ⟨vx, ex, hlx, hrx⟩ := hx.agg_inv; obtain ⟨vy, ey, hly, hry⟩ := hy.agg_inv
    subst ex; subst ey
    cases op <;> simp only [eqlV, reduceCtorEq] at hv
    all_goals
      split at hv
      case isFalse => cases hv
      rename_i hg
      rw [Option.map_eq_some_iff] at hv
      obtain ⟨q, hq, he⟩ := hv
      cases he
      have h1 := run_eqV 10000 hq hx hy
      refine ⟨_, ?_, .bool _ _⟩
      rw [Sem.run_bind, run_eqGuard_agg w _ t X Y vx vy hg]
      simp only [Result.andThen_ok, run_eql_struct, run_neq_struct, h1]
  · rename_i p q
    have := hx.bool_inv; subst this; have := hy.bool_inv; subst this
    split at hv
    case h_2 => cases hv
    rename_i hb
    cases op <;> simp only [reduceCtorEq] at hv
    all_goals
      cases hv
      refine ⟨_, ?_, .bool _ _⟩
      simp [eqGuard, binOp, Op.equal, Op.maxDepth, run_equalIn_bool' w 9999 t p q hb]
  · rename_i sz n f
    split at hv
    case h_2 => cases hv
    rename_i e hb
    have := hy.nils_inv; subst this
    have hq : ∃ (p : Option Addr) (l c : Nat), a = .slice p l c ∧ (p.isNone = true → n = 0) := by
      cases hx with
      | arr0 => exact ⟨none, 0, 0, rfl, fun _ => rfl⟩
      | arr => exact ⟨_, _, _, rfl, fun h => by cases h⟩
    obtain ⟨p, l, c, rfl, hp⟩ := hq
    cases op <;> simp only [reduceCtorEq] at hv
    all_goals
      cases hv
      refine ⟨_, by rw [Sem.run_bind]; exact run_nileq P w t p l c hb _ _ _ (by simp), .abool _ _ _ ?_⟩
      cases p <;> simp_all
  · split at hv
    case h_2 => cases hv
    rename_i e hb
    have := hy.nils_inv; subst this
    have := hx.nils_inv; subst this
    cases op <;> simp only [reduceCtorEq] at hv
    all_goals
      cases hv
      exact ⟨_, by rw [Sem.run_bind]; exact run_nileq P w t none 0 0 hb _ _ _ (by simp), .bool _ _⟩
  · obtain ⟨r, h1, h2, h4, h5⟩ := run_binV (P := P) (t := t) hx hy hv hφ
    refine ⟨r, ?_, h2 _ _⟩
    rw [Sem.run_bind]
    have : (eqGuard op t X Y a b).run P w = .ok () w := by
      unfold eqGuard
      cases a <;> first | (exact absurd rfl h4) | (exact absurd rfl (h5 _)) | (cases op <;> rfl)
    rw [this]; exact h1

end Go.Abs
namespace Go.Abs
open Go

/-! ### Constants -/
def vcon1 : Value → V
  | .bool b => .bool b
  | .int .u16 n => if 0 ≤ n ∧ n < 65536 then .b16 (BitVec.ofInt 16 n) else .lit (.int .u16 n)
  | .int k n => .int k n
  | .string s => .str s.data.toList
  | .slice none 0 0 => .nils
  | v => .lit v
def vcon : Value → V
  | .agg cs => .agg (cs.toList.map vcon1)
  | v => vcon1 v

theorem rel_vcon1 {St : Nat → Prop} {w : World} {g : Gh} (v : Value) : Rel St w g (vcon1 v) v := by
  unfold vcon1
  split
  · exact .bool _ _
  · split
    · rename_i n hn
      have e : n = ((BitVec.ofInt 16 n).toNat : Int) := by simp [BitVec.toNat_ofInt]; omega
      have := Rel.b16 (St := St) (w := w) g (BitVec.ofInt 16 n)
      rwa [← e] at this
    · exact .lit _ _
  · exact .int _ _ _
  · exact .str _ _ _ rfl
  · exact .nils _
  · exact .lit _ _
theorem rel_vcon {St : Nat → Prop} {w : World} {g : Gh} (v : Value) : Rel St w g (vcon v) v := by
  unfold vcon
  split
  · rename_i cs
    refine .agg _ _ _ (by simp) fun i hi => ?_
    have hi' : i < cs.size := by simpa using hi
    have e1 : (cs.toList.map vcon1).getD i .any = vcon1 cs[i] := by simp [List.getD_eq_getElem?_getD, hi']
    have e2 : cs.getD i undef = cs[i] := by simp [hi']
    rw [e1, e2]; exact rel_vcon1 _
  · exact rel_vcon1 _

/-! ### Structs and arrays out of parts -/
def setCells (cs : List V) (off : Nat) : List V → List V
  | [] => cs
  | v :: l => setCells (cs.set off v) (off + 1) l
def V.cells : V → List V
  | .agg cs => cs
  | v => [v]
def fillV (place : Nat → Option (Nat × Nat)) (cells : List V) : List (Nat × V) → Option (List V)
  | [] => some cells
  | (i, v) :: rest => match place i with
    | none => none
    | some (off, size) => if v.cells.length = size ∧ off + size ≤ cells.length then fillV place (setCells cells off v.cells) rest else none

theorem setCells_length : ∀ (l : List V) (cs : List V) (off : Nat), (setCells cs off l).length = cs.length
  | [], _, _ => rfl
  | v :: l, cs, off => by simp [setCells, setCells_length l]

def V.isVal : V → Bool
  | .any => false
  | .tup _ => false
  | .opt _ _ => false
  | .lit (.agg _) => false
  | .lit (.tuple _) => false
  | _ => true

/-- The cells of a value. -/
theorem Rel.cells {St : Nat → Prop} {w : World} {g : Gh} {v : V} {x : Value} (h : Rel St w g v x) (hv : v.isVal = true) :
    x.cells.size = v.cells.length ∧ ∀ i, i < v.cells.length → Rel St w g (v.cells.getD i .any) (x.cells.getD i undef) := by
  have one : ∀ {v : V} {x : Value}, Rel St w g v x → v.cells = [v] → x.cells = #[x] →
      x.cells.size = v.cells.length ∧ ∀ i, i < v.cells.length → Rel St w g (v.cells.getD i .any) (x.cells.getD i undef) := by
    intro v x h h1 h2
    rw [h1, h2]
    refine ⟨rfl, fun i hi => ?_⟩
    obtain rfl : i = 0 := by simpa using hi
    simpa using h
  cases h with
  | any => simp [V.isVal] at hv
  | tup => simp [V.isVal] at hv
  | opt => simp [V.isVal] at hv
  | agg _ cs vs hl h => exact ⟨hl, h⟩
  | lit x => cases x <;> first | (simp [V.isVal] at hv; done) | exact one (.lit _ _) rfl rfl
  | bool => exact one (.bool _ _) rfl rfl
  | int => exact one (.int _ _ _) rfl rfl
  | b16 => exact one (.b16 _ _) rfl rfl
  | str _ l s h => exact one (.str _ _ _ h) rfl rfl
  | nils => exact one (.nils _) rfl rfl
  | arr0 => exact one (.arr0 _ _ _) rfl rfl
  | arr _ sz n f b o cap x hcap hmax hs hc h1 hr => exact one (.arr _ sz n f b o cap x hcap hmax hs hc h1 hr) rfl rfl
  | elem _ sz n f i off b o x hi hs hc h1 hr => exact one (.elem _ sz n f i off b o x hi hs hc h1 hr) rfl rfl
  | own _ r v h h1 => exact one (.own _ r _ h h1) rfl (by cases x <;> first | rfl | (simp [Value.oneCell'] at h1; done))
  | ptr _ r off b h => exact one (.ptr _ r off b h) rfl rfl
  | oelem _ r sz i off b n cap h => exact one (.oelem _ r sz i off b n cap h) rfl rfl
  | osl _ r sz i off b n cap h => exact one (.osl _ r sz i off b n cap h) rfl rfl
  | fn _ f cs vs hl h => exact one (.fn _ f cs vs hl h) rfl rfl
  | abool _ p b h => exact one (.abool _ p b h) rfl rfl
  | mp _ n kf vf b es hs ho hn hb hk hv2 => exact one (.mp _ n kf vf b es hs ho hn hb hk hv2) rfl rfl

theorem Rel.one {St : Nat → Prop} {w : World} {g : Gh} {v : V} {x : Value} (h : Rel St w g v x) (hv : v.isVal = true) (ha : ∀ cs, v ≠ .agg cs) : x.oneCell' = true := by
  cases h with
  | any => simp [V.isVal] at hv
  | tup => simp [V.isVal] at hv
  | opt => simp [V.isVal] at hv
  | agg _ cs vs hl h => exact absurd rfl (ha cs)
  | lit x => cases x <;> first | rfl | (simp [V.isVal] at hv; done)
  | own _ r v h h1 => exact h1
  | _ => rfl

theorem rel_set {St : Nat → Prop} {w : World} {g : Gh} {cs : List V} {vs : Array Value} {o : Nat} {v : V} {u : Value} (hs : vs.size = cs.length) (hv : Rel St w g v u)
    (hr : ∀ i, i < cs.length → Rel St w g (cs.getD i .any) (vs.getD i undef)) : ∀ i, i < cs.length → Rel St w g ((cs.set o v).getD i .any) ((vs.setIfInBounds o u).getD i undef) := by
  intro i hi
  by_cases h : o = i
  · subst h
    have h2 : o < vs.size := by omega
    simpa [List.getD_eq_getElem?_getD, hi, h2] using hv
  · have := hr i hi
    simpa [List.getD_eq_getElem?_getD, h, Array.getElem?_setIfInBounds_ne h] using this

theorem fill_step {St : Nat → Prop} {w : World} {g : Gh} (off : Nat) : ∀ (l : List V) (us : List Value) (cs : List V) (vs : Array Value) (k : Nat), us.length = l.length → vs.size = cs.length →
    (∀ i, i < l.length → Rel St w g (l.getD i .any) (us.getD i undef)) → (∀ i, i < cs.length → Rel St w g (cs.getD i .any) (vs.getD i undef)) →
    ((us.zipIdx k).foldl (fun cs (p : Value × Nat) => cs.setIfInBounds (off + p.2) p.1) vs).size = cs.length ∧
      ∀ i, i < cs.length → Rel St w g ((setCells cs (off + k) l).getD i .any) (((us.zipIdx k).foldl (fun cs (p : Value × Nat) => cs.setIfInBounds (off + p.2) p.1) vs).getD i undef)
  | [], [], cs, vs, k, _, hs, _, hr => ⟨by simpa using hs, fun i hi => by simpa [setCells] using hr i hi⟩
  | [], _ :: _, _, _, _, h, _, _, _ => by simp at h
  | _ :: _, [], _, _, _, h, _, _, _ => by simp at h
  | v :: l, u :: us, cs, vs, k, hl, hs, hv, hr => by
    simp only [List.zipIdx_cons, List.foldl_cons, setCells]
    have ih := fill_step off l us (cs.set (off + k) v) (vs.setIfInBounds (off + k) u) (k + 1) (by simpa using hl) (by simpa using hs)
      (fun i hi => by simpa using hv (i + 1) (by simp; omega))
      (fun i hi => rel_set hs (by simpa using hv 0 (by simp)) hr i (by simpa using hi))
    simp only [List.length_set] at ih
    exact ih

theorem run_fill {St : Nat → Prop} {w : World} {g : Gh} {place : Nat → Option (Nat × Nat)} : ∀ {parts : List (Nat × V)} {us : List (Nat × Value)} {cs cs' : List V} {vs : Array Value},
    fillV place cs parts = some cs' → us.length = parts.length → (∀ i, i < parts.length → (us.getD i (0, undef)).1 = (parts.getD i (0, .any)).1 ∧ Rel St w g (parts.getD i (0, .any)).2 (us.getD i (0, undef)).2 ∧ (parts.getD i (0, .any)).2.isVal = true) →
    vs.size = cs.length → (∀ i, i < cs.length → Rel St w g (cs.getD i .any) (vs.getD i undef)) →
    ∃ vs', Instr.fill place vs us = some vs' ∧ vs'.size = cs'.length ∧ cs'.length = cs.length ∧ ∀ i, i < cs'.length → Rel St w g (cs'.getD i .any) (vs'.getD i undef)
  | [], [], cs, cs', vs, h, _, _, hs, hr => by
    simp only [fillV, Option.some.injEq] at h; subst h
    exact ⟨vs, rfl, hs, rfl, hr⟩
  | [], _ :: _, _, _, _, _, h, _, _, _ => by simp at h
  | _ :: _, [], _, _, _, _, h, _, _, _ => by simp at h
  | (i, v) :: parts, (i', u) :: us, cs, cs', vs, h, hl, hp, hs, hr => by
    have h0 := hp 0 (by simp)
    simp only [List.getD_cons_zero] at h0
    obtain ⟨rfl, hrel, hval⟩ := h0
    simp only [fillV] at h
    split at h
    case h_1 => cases h
    rename_i off size hpl
    split at h
    case isFalse => cases h
    rename_i hc
    obtain ⟨hcl, hcr⟩ := hrel.cells hval
    have hst := fill_step off v.cells u.cells.toList cs vs 0 (by simpa using hcl) hs (fun i hi => by simpa [List.getD_eq_getElem?_getD] using hcr i hi) hr
    have ih := run_fill (place := place) (us := us) h (by simpa using hl) (fun i hi => by simpa using hp (i + 1) (by simp; omega)) (by rw [setCells_length]; exact hst.1) (fun i hi => hst.2 i (by rwa [setCells_length] at hi))
    obtain ⟨vs', h1, h2, h3, h4⟩ := ih
    refine ⟨vs', ?_, h2, by rw [h3, setCells_length], h4⟩
    simp only [Instr.fill, hpl]
    rw [if_neg (by simp; omega)]
    rw [← h1]
    congr 1
    rw [← Array.foldl_toList]
    simp

def zeroV (P : Program) (t : TypeId) : Option V :=
  match P.info? t with
  | some i => match i.zero with
    | some z => some (vcon z)
    | none => none
  | none => none
theorem run_zeroV {P : Program} {St : Nat → Prop} {w : World} {g : Gh} {t : TypeId} {v : V} (h : zeroV P t = some v) : ∃ z, (zeroValue t).run P w = .ok z w ∧ v = vcon z ∧ Rel St w g v z := by
  unfold zeroV at h
  split at h
  case h_2 => cases h
  rename_i i hi
  split at h
  case h_2 => cases h
  rename_i z hz
  cases h
  exact ⟨z, by simp [zeroValue, typeInfo, hi, hz], rfl, rel_vcon z⟩

def buildV (P : Program) (t : TypeId) (parts : List (Nat × V)) : Option V :=
  match zeroV P t, P.underlying t with
  | some (.agg z), some (.struct fields) =>
    match (fields.toList.mapM fun f => (szOf P f.type).map fun k => (f.offset, k)) with
    | some places => if parts.all (fun p => p.2.isVal) then (fillV (places[·]?) z parts).map .agg else none
    | none => none
  | some (.agg z), some (.array _ e) =>
    match szOf P e with
    | some k => if parts.all (fun p => p.2.isVal) then (fillV (fun i => some (i * k, k)) z parts).map .agg else none
    | none => none
  | _, _ => none

theorem run_mapM_places {P : Program} {w : World} : ∀ {fs : List Field} {places : List (Nat × Nat)}, fs.mapM (fun f => (szOf P f.type).map fun k => (f.offset, k)) = some places →
    (fs.mapM (fun f => do pure (f.offset, ← sizeOf f.type) : Field → Sem (Nat × Nat))).run P w = .ok places w
  | [], places, h => by simp at h; subst h; rfl
  | f :: fs, places, h => by
    simp only [List.mapM_cons, Option.bind_eq_bind, Option.bind_eq_some_iff, Option.map_eq_some_iff, Option.pure_def, Option.some.injEq] at h
    obtain ⟨p, ⟨k, hk, rfl⟩, ps, hps, rfl⟩ := h
    simp only [List.mapM_cons, Sem.run_bind, run_szOf hk, Result.andThen_ok, Sem.run_pure, run_mapM_places hps]

theorem run_buildV {P : Program} {St : Nat → Prop} {w : World} {g : Gh} {t : TypeId} {parts : List (Nat × V)} {v : V} (h : buildV P t parts = some v) {us : Array (Nat × Value)} (hl : us.size = parts.length)
    (hp : ∀ i, i < parts.length → (us.getD i (0, undef)).1 = (parts.getD i (0, .any)).1 ∧ Rel St w g (parts.getD i (0, .any)).2 (us.getD i (0, undef)).2) :
    ∃ x, (Instr.build t us).run P w = .ok x w ∧ Rel St w g v x := by
  have hval : parts.all (fun p => p.2.isVal) = true → ∀ i, i < parts.length → (parts.getD i (0, .any)).2.isVal = true := by
    intro ha i hi
    have := List.all_eq_true.1 ha (parts[i]) (by simp)
    simpa [List.getD_eq_getElem?_getD, hi] using this
  unfold buildV at h
  split at h
  · rename_i z fields hz hu
    obtain ⟨zv, hzr, hze, hzrel⟩ := run_zeroV (P := P) (St := St) (w := w) (g := g) hz
    obtain ⟨zs, rfl, hzl, hzc⟩ := hzrel.agg_inv
    split at h
    case h_2 => cases h
    rename_i places hpl
    split at h
    case isFalse => cases h
    rename_i ha
    rw [Option.map_eq_some_iff] at h
    obtain ⟨cs', hf, rfl⟩ := h
    obtain ⟨vs', h1, h2, h3, h4⟩ := run_fill (us := us.toList) hf (by simpa using hl) (fun i hi => ⟨by simpa [List.getD_eq_getElem?_getD] using (hp i hi).1, by simpa [List.getD_eq_getElem?_getD] using (hp i hi).2, hval ha i hi⟩) hzl hzc
    refine ⟨.agg vs', ?_, .agg _ _ _ h2 h4⟩
    have hm := run_mapM_places (w := w) hpl
    have hm' : (fields.mapM (fun f => do pure (f.offset, ← sizeOf f.type) : Field → Sem (Nat × Nat))).run P w = .ok places.toArray w := by
      rw [Array.mapM_eq_mapM_toList, Sem.run_map, hm]; rfl
    simp only [Instr.build, Sem.run_bind, hzr, Result.andThen_ok, run_underlying hu, Value.cells, hm', List.getElem?_toArray, h1, Sem.run_pure]
  · rename_i z n e hz hu
    obtain ⟨zv, hzr, hze, hzrel⟩ := run_zeroV (P := P) (St := St) (w := w) (g := g) hz
    obtain ⟨zs, rfl, hzl, hzc⟩ := hzrel.agg_inv
    split at h
    case h_2 => cases h
    rename_i k hk
    split at h
    case isFalse => cases h
    rename_i ha
    rw [Option.map_eq_some_iff] at h
    obtain ⟨cs', hf, rfl⟩ := h
    obtain ⟨vs', h1, h2, h3, h4⟩ := run_fill (us := us.toList) hf (by simpa using hl) (fun i hi => ⟨by simpa [List.getD_eq_getElem?_getD] using (hp i hi).1, by simpa [List.getD_eq_getElem?_getD] using (hp i hi).2, hval ha i hi⟩) hzl hzc
    refine ⟨.agg vs', ?_, .agg _ _ _ h2 h4⟩
    simp only [Instr.build, Sem.run_bind, hzr, Result.andThen_ok, run_underlying hu, Value.cells, run_szOf hk, h1, Sem.run_pure]
  · cases h

end Go.Abs
namespace Go.Abs
open Go

def unV (wm : Bool) : UnOp → V → Option (V × Prop)
  | .not, .bool b => some (.bool (!b), True)
  | .neg, .int k n => if wm then some (.int k (k.wrap (0 - n)), True) else some (.int k (0 - n), inR k (0 - n))
  | .xor, .b16 x => some (.b16 (~~~x), True)
  | .neg, .b16 x => some (.b16 (-x), True)
  | _, _ => none

theorem run_unV {P : Program} {St : Nat → Prop} {w : World} {g : Gh} {wm : Bool} {op : UnOp} {v r : V} {φ : Prop} {x : Value} (hx : Rel St w g v x) (h : unV wm op v = some (r, φ)) (hφ : φ) :
    ∃ y, (Op.unary op x).run P w = .ok y w ∧ Rel St w g r y := by
  unfold unV at h
  split at h
  · cases h; have := hx.bool_inv; subst this; exact ⟨_, rfl, .bool _ _⟩
  · have := hx.int_inv; subst this
    split at h
    · cases h; exact ⟨_, rfl, .int _ _ _⟩
    · cases h; refine ⟨_, rfl, ?_⟩; rw [wrap_in hφ]; exact .int _ _ _
  · rename_i y
    cases h; have := hx.b16_inv; subst this
    refine ⟨_, rfl, ?_⟩
    have e : IntKind.u16.wrap ((BitVec.ofInt 16 65535 ^^^ BitVec.ofInt 16 (y.toNat : Int)).toNat : Int) = ((~~~y).toNat : Int) := by
      rw [wrap_u16]
      congr 2
      have ofN : ∀ z : BitVec 16, BitVec.ofInt 16 (z.toNat : Int) = z := fun z => by
        apply BitVec.eq_of_toNat_eq
        have := z.isLt
        simp
      rw [ofN, ofN]
      have : BitVec.ofInt 16 65535 = BitVec.allOnes 16 := by decide
      rw [this, BitVec.allOnes_xor]
    have e2 : (if IntKind.u16.signed then (-1 : Int) else IntKind.u16.max) = 65535 := by decide
    show Rel St w g _ (.int .u16 (IntKind.u16.wrap ((BitVec.ofInt 16 (if IntKind.u16.signed then (-1 : Int) else IntKind.u16.max) ^^^ BitVec.ofInt 16 (y.toNat : Int)).toNat : Int)))
    rw [e2, e]; exact .b16 _ _
  · rename_i y
    cases h; have := hx.b16_inv; subst this
    refine ⟨_, rfl, ?_⟩
    have e : IntKind.u16.wrap (0 - (y.toNat : Int)) = ((-y).toNat : Int) := by
      rw [wrap_u16]
      congr 2
      apply BitVec.eq_of_toNat_eq
      have := y.isLt
      simp [BitVec.toNat_ofInt]
      omega
    show Rel St w g _ (.int .u16 (IntKind.u16.wrap (0 - (y.toNat : Int))))
    rw [e]; exact .b16 _ _
  · cases h

/-! ### Conversions -/
def byteOf : V → UInt8
  | .int .u8 n => UInt8.ofNat n.toNat
  | _ => 0
def isByte : V → Prop
  | .int .u8 _ => True
  | _ => False

def convV (P : Program) (h : Heap) (wm : Bool) (src dst : TypeId) (x : V) : Option (V × Prop) :=
  match P.underlying dst, x with
  | some (.int .u16), .int _ n => match P.underlying src with
    | some (.int _) => some (.b16 (BitVec.ofInt 16 n), True)
    | _ => none
  | some (.int .u16), .b16 y => match P.underlying src with
    | some (.int _) => some (.b16 y, True)
    | _ => none
  | some (.int k), .int _ n => match P.underlying src with
    | some (.int _) => if wm then some (.int k (k.wrap n), True) else some (.int k n, inR k n)
    | _ => none
  | some (.int k), .b16 y => match P.underlying src with
    | some (.int _) => some (.int k (y.toNat : Int), inR k (y.toNat : Int))
    | _ => none
  | some .string, .str l => match P.underlying src with
    | some .string => some (.str l, True)
    | _ => none
  | some .string, .arr sz n f => match P.underlying src with
    | some (.slice e) => match P.underlying e with
      | some (.int .u8) => if sz = 1 then some (.str ((List.range n).map fun i => byteOf (f i 0)), ∀ i, i < n → isByte (f i 0)) else none
      | _ => none
    | _ => none
  | some .string, .own r => match P.underlying src with
    | some (.slice e) => match P.underlying e with
      | some (.int .u8) => match h.get r with
        | some (.rows _ sz n f) => if sz = 1 then some (.str ((List.range n).map fun i => byteOf (f i 0)), ∀ i, i < n → isByte (f i 0)) else none
        | _ => none
      | _ => none
    | _ => none
  | _, _ => none

theorem foldl_push_bytes' : ∀ (ns : List Int) (s : ByteArray), (ns.foldl (fun r n => r.push (UInt8.ofNat n.toNat)) s).data.toList = s.data.toList ++ ns.map fun n => UInt8.ofNat n.toNat
  | [], s => by simp
  | n :: ns, s => by
    rw [List.foldl_cons, foldl_push_bytes' ns]
    simp

theorem run_bytes {P : Program} {St : Nat → Prop} {w : World} {n : Nat} {f : Nat → Nat → V} {b o cap : Nat} {x : Nat → Value}
    (hc : ∀ i, i < n → w.cell? ⟨b, o + i, none⟩ = some (x i)) (hr : ∀ i, i < n → Rel St w noGh (f i 0) (x i)) (hφ : ∀ i, i < n → isByte (f i 0)) (g : Gh) :
    ∃ y, (Conv.bytesToString (.slice (some ⟨b, o, none⟩) n cap)).run P w = .ok y w ∧ Rel St w g (.str ((List.range n).map fun i => byteOf (f i 0))) y := by
  have hx : ∀ i, i < n → ∃ m, f i 0 = .int .u8 m ∧ x i = .int .u8 m := by
    intro i hi
    have h1 := hφ i hi
    have h2 := hr i hi
    cases hf : f i 0 with
    | int k m => 
      rw [hf] at h1 h2
      cases k <;> simp only [isByte] at h1
      exact ⟨m, rfl, h2.int_inv⟩
    | _ => rw [hf] at h1; simp [isByte] at h1
  have hm : ∃ ms : Nat → Int, ∀ i, i < n → f i 0 = .int .u8 (ms i) ∧ x i = .int .u8 (ms i) := by
    refine ⟨fun i => match f i 0 with | .int _ m => m | _ => 0, fun i hi => ?_⟩
    obtain ⟨m, h1, h2⟩ := hx i hi
    simp only [h1]; exact ⟨trivial, h2⟩
  obtain ⟨ms, hms⟩ := hm
  have hl := run_loadCells_list (P := P) w ⟨b, o, none⟩ (((List.range n).map ms).map (Value.int .u8)) (fun j v hv => by
    have hj : j < n := by have := (List.getElem?_eq_some_iff.1 hv).1; simpa using this
    rw [add_plain, hc j hj, (hms j hj).2]
    simpa [hj] using hv)
  rw [show (((List.range n).map ms).map (Value.int .u8)).length = n by simp] at hl
  refine ⟨_, run_bytesToString w ⟨b, o, none⟩ n cap ((List.range n).map ms) hl, .str _ _ _ ?_⟩
  rw [foldl_push_bytes']
  rw [show ByteArray.empty.data.toList = [] from rfl, List.nil_append, List.map_map]
  refine List.map_congr_left fun i hi => ?_
  have hi' : i < n := by simpa using hi
  simp [byteOf, (hms i hi').1]

theorem run_convV {P : Program} {St : Nat → Prop} {w : World} {g : Gh} {h : Heap} (hb : BOk St w g h) {wm : Bool} {src dst : TypeId} {x v : V} {φ : Prop} {a : Value} (hx : Rel St w g x a)
    (hv : convV P h wm src dst x = some (v, φ)) (hφ : φ) : ∃ y, (convert src dst a).run P w = .ok y w ∧ Rel St w g v y := by
  unfold convV at hv
  split at hv
  · rename_i k n hd
    split at hv
    case h_2 => cases hv
    rename_i k' hs
    cases hv; have := hx.int_inv; subst this
    refine ⟨.int .u16 (IntKind.u16.wrap n), by simp [convert, run_underlying hs, run_underlying hd, Conv.intToInt], ?_⟩
    rw [wrap_u16]; exact .b16 _ _
  · rename_i y hd
    split at hv
    case h_2 => cases hv
    rename_i k' hs
    cases hv; have := hx.b16_inv; subst this
    refine ⟨.int .u16 (IntKind.u16.wrap (y.toNat : Int)), by simp [convert, run_underlying hs, run_underlying hd, Conv.intToInt], ?_⟩
    rw [wrap_in (by have := y.isLt; exact ⟨by omega, by omega⟩)]; exact .b16 _ _
  · rename_i k k2 n _ hd
    split at hv
    case h_2 => cases hv
    rename_i k' hs
    have := hx.int_inv; subst this
    have hrun : (convert src dst (.int k2 n)).run P w = .ok (.int k (k.wrap n)) w := by simp [convert, run_underlying hs, run_underlying hd, Conv.intToInt]
    split at hv
    · cases hv; exact ⟨_, hrun, .int _ _ _⟩
    · cases hv; refine ⟨_, hrun, ?_⟩; rw [wrap_in hφ]; exact .int _ _ _
  · rename_i k y _ hd
    split at hv
    case h_2 => cases hv
    rename_i k' hs
    cases hv; have := hx.b16_inv; subst this
    refine ⟨.int k (k.wrap (y.toNat : Int)), by simp [convert, run_underlying hs, run_underlying hd, Conv.intToInt], ?_⟩
    rw [wrap_in hφ]; exact .int _ _ _
  · rename_i l hd
    split at hv
    case h_2 => cases hv
    rename_i hs
    cases hv
    obtain ⟨s, rfl, rfl⟩ := hx.str_inv
    exact ⟨.string s, by simp [convert, run_underlying hs, run_underlying hd], .str _ _ _ rfl⟩
  · rename_i sz n f hd
    split at hv
    case h_2 => cases hv
    rename_i e hs
    split at hv
    case h_2 => cases hv
    rename_i he
    split at hv
    case isFalse => cases hv
    rename_i hsz
    subst hsz
    cases hv
    cases hx with
    | arr0 =>
      refine ⟨.string .empty, ?_, .str _ _ _ rfl⟩
      rw [run_convert_bytes_string w src dst e _ _ _ hs he hd]; rfl
    | arr _ _ _ _ b o cap xx hcap hmax hS hc h1 hr =>
      rw [run_convert_bytes_string w src dst e _ _ _ hs he hd]
      exact run_bytes (x := fun i => xx i 0) (fun i hi => by simpa using hc i 0 hi (by omega)) (fun i hi => hr i 0 hi (by omega)) hφ g
  · rename_i r hd
    split at hv
    case h_2 => cases hv
    rename_i e hs
    split at hv
    case h_2 => cases hv
    rename_i he
    split at hv
    case h_2 => cases hv
    rename_i e' sz n f hh
    split at hv
    case isFalse => cases hv
    rename_i hsz
    subst hsz
    cases hv
    obtain ⟨u, hgu, xs, ho, hr, h1c⟩ := hb r _ hh
    have hxr := hx.own_inv
    rw [hxr] at hgu; cases hgu
    rcases ho.2 with ⟨rfl, hn⟩ | ⟨b, cap, cur, hu, _, hg, hncap, hcapm, hsz, htake⟩
    · subst hn
      refine ⟨.string .empty, ?_, .str _ _ _ rfl⟩
      rw [run_convert_bytes_string w src dst e _ _ _ hs he hd]; rfl
    · subst hu
      rw [run_convert_bytes_string w src dst e _ _ _ hs he hd]
      exact run_bytes (o := 0) (x := fun i => xs.getD i undef) (fun i hi => by simpa using ownsRow_cells ho rfl i (by omega)) (fun i hi => by simpa using hr i 0 hi (by omega)) hφ g
  · cases hv

/-! ### Built-ins that only read -/
def lenV (h : Heap) : TypeDesc → V → Option V
  | .string, .str l => some (.int .i64 (l.length : Int))
  | .slice _, .arr _ n _ => some (.int .i64 (n : Int))
  | .slice _, .nils => some (.int .i64 0)
  | .slice _, .own r => match h.get r with
    | some (.rows _ _ n _) => some (.int .i64 (n : Int))
    | _ => none
  | .slice _, .osl _ _ _ n => some (.int .i64 (n : Int))
  | _, _ => none

def builtinV (P : Program) (h : Heap) (b : Builtin) (ts : Array TypeId) (args : List V) : Option V :=
  match b, ts.toList, args with
  | .len, [t], [x] => match P.underlying t with
    | some d => lenV h d x
    | none => none
  | .cap, [t], [.nils] => match P.underlying t with
    | some (.slice _) => some (.int .i64 0)
    | _ => none
  | .min, _, [.int k a, .int _ c] => some (.int k (min a c))
  | .max, _, [.int k a, .int _ c] => some (.int k (max a c))
  | _, _, _ => none

theorem run_builtinV {P : Program} {St : Nat → Prop} {w : World} {g : Gh} {h : Heap} (hb : BOk St w g h) {b : Builtin} {ts : Array TypeId} {args : List V} {v : V} {us : Array Value} (hl : us.size = args.length)
    (hr : ∀ i, i < args.length → Rel St w g (args.getD i .any) (us.getD i undef)) (hv : builtinV P h b ts args = some v) (ty : TypeId) (cs : Array Bool) :
    ∃ y, (builtin b ts ty cs us).run P w = .ok (.value y) w ∧ Rel St w g v y := by
  unfold builtinV at hv
  split at hv
  · rename_i b ts' args' t x hts
    split at hv
    case h_2 => cases hv
    rename_i d hd
    have hu : us = #[us.getD 0 undef] := by
      apply Array.ext
      · simpa using hl
      · intro i h1 h2
        obtain rfl : i = 0 := by simpa using h2
        simp [h1]
    have hts2 : ts = #[t] := by rw [← Array.toArray_toList (xs := ts), hts]
    have h0 := hr 0 (by simp)
    simp only [List.getD_cons_zero] at h0
    rw [hu, hts2]
    generalize us.getD 0 undef = u at h0
    simp only [builtin, Sem.run_bind]
    unfold lenV at hv
    split at hv
    · cases hv; obtain ⟨s, rfl, rfl⟩ := h0.str_inv
      exact ⟨_, by simp [Builtin.len_, run_underlying hd]; rfl, by simp only [goInt]; exact .int _ _ _⟩
    · cases hv
      cases h0 with
      | arr0 => exact ⟨_, by simp [Builtin.len_, run_underlying hd]; rfl, .int _ _ _⟩
      | arr _ _ _ _ b o cap xx hcap hmax hS hc h1 hr => exact ⟨_, by simp [Builtin.len_, run_underlying hd]; rfl, .int _ _ _⟩
    · cases hv; have := h0.nils_inv; subst this
      exact ⟨_, by simp [Builtin.len_, run_underlying hd]; rfl, .int _ _ _⟩
    · split at hv
      case h_2 => cases hv
      rename_i e sz n f hh
      cases hv
      obtain ⟨u', hgu, xs, ho, hr', h1c⟩ := hb _ _ hh
      have hxr := h0.own_inv
      rw [hxr] at hgu; cases hgu
      rcases ho.2 with ⟨rfl, hn⟩ | ⟨b, cap, cur, hu', _, hg, hncap, hcapm, hsz, htake⟩
      · subst hn; exact ⟨_, by simp [Builtin.len_, run_underlying hd]; rfl, .int _ _ _⟩
      · subst hu'; exact ⟨_, by simp [Builtin.len_, run_underlying hd]; rfl, .int _ _ _⟩
    · cases hv
      cases h0 with
      | osl _ _ _ _ _ b n cap h => exact ⟨_, by simp [Builtin.len_, run_underlying hd]; rfl, .int _ _ _⟩
    · cases hv
  · rename_i ts' args' t hts
    split at hv
    case h_2 => cases hv
    rename_i e hd
    cases hv
    have hu : us = #[us.getD 0 undef] := by
      apply Array.ext
      · simpa using hl
      · intro i h1 h2
        obtain rfl : i = 0 := by simpa using h2
        simp [h1]
    have hts2 : ts = #[t] := by rw [← Array.toArray_toList (xs := ts), hts]
    have h0 := (hr 0 (by simp)).nils_inv
    rw [hu, hts2, h0]
    exact ⟨_, by simp [builtin, Builtin.cap_, run_underlying hd]; rfl, .int _ _ _⟩
  all_goals try (cases hv; done)
  all_goals
    rename_i k a k' c
    cases hv
    have hu : us = #[us.getD 0 undef, us.getD 1 undef] := by
      apply Array.ext
      · simpa using hl
      · intro i h1 h2
        have : i = 0 ∨ i = 1 := by simp at h2; omega
        rcases this with rfl | rfl <;> simp [h1]
    have h0 := (hr 0 (by simp)).int_inv
    have h1 := (hr 1 (by simp)).int_inv
    rw [hu, h0, h1]
    refine ⟨_, ?_, .int _ _ _⟩
    simp only [builtin, Sem.run_bind, Go.Lib.run_max_ints, Go.Lib.run_min_ints, Result.andThen_ok, Sem.run_pure]

end Go.Abs
namespace Go.Abs
open Go

def raw (t : List (Nat × V)) : Operand → V
  | .tmp d => if d < G0 then tget t d else .any
  | .const v => vcon v
  | .global g => tget t (G0 + g)
  | .func f => .fn (.func f) []
def strip : V → V
  | .opt _ v => v
  | v => v
def ev (t : List (Nat × V)) (x : Operand) : V := strip (raw t x)

/-- What must hold for the operands to be there. -/
def obl (c : Bool) (t : List (Nat × V)) : List Operand → Prop
  | [] => True
  | x :: l => match raw t x with
    | .opt c' _ => (c = true → c' = true) ∧ obl c t l
    | _ => obl c t l

theorem rel_raw {St : Nat → Prop} {w : World} {g : Gh} {N : Nat} {t : List (Nat × V)} {a : Act} (h : TSim St w g N t a) (x : Operand) : Rel St w g (raw t x) (a.eval x) := by
  cases x with
  | tmp d =>
    show Rel St w g (if d < G0 then tget t d else .any) _
    split
    · rename_i hd; exact h.tmp hd
    · exact .any _ _
  | const v => exact rel_vcon v
  | global g => exact h.glob g
  | func f => exact .fn _ _ [] #[] rfl (fun i hi => by simp at hi)

theorem rel_strip {St : Nat → Prop} {w : World} {g : Gh} {v : V} {x : Value} (h : Rel St w g v x) (hc : ∀ c' v', v = .opt c' v' → c' = true) : Rel St w g (strip v) x := by
  cases h with
  | opt _ c v x h h0 => exact h (hc c v rfl)
  | any => exact .any _ _
  | bool => exact .bool _ _
  | int => exact .int _ _ _
  | b16 => exact .b16 _ _
  | str _ l s h => exact .str _ _ _ h
  | agg _ cs vs hl h => exact .agg _ _ _ hl h
  | tup _ cs vs hl h => exact .tup _ _ _ hl h
  | nils => exact .nils _
  | arr0 => exact .arr0 _ _ _
  | arr _ sz n f b o cap x hcap hmax hs hcc h1 hr => exact .arr _ sz n f b o cap x hcap hmax hs hcc h1 hr
  | elem _ sz n f i off b o x hi hs hcc h1 hr => exact .elem _ sz n f i off b o x hi hs hcc h1 hr
  | own _ r v h h1 => exact .own _ r _ h h1
  | ptr _ r off b h => exact .ptr _ r off b h
  | oelem _ r sz i off b n cap h => exact .oelem _ r sz i off b n cap h
  | osl _ r sz i off b n cap h => exact .osl _ r sz i off b n cap h
  | fn _ f cs vs hl h => exact .fn _ f cs vs hl h
  | lit => exact .lit _ _
  | abool _ p b h => exact .abool _ p b h
  | mp _ n kf vf b es hs ho hn hb hk hv => exact .mp _ n kf vf b es hs ho hn hb hk hv

theorem obl_mem {c : Bool} {t : List (Nat × V)} : ∀ {l : List Operand}, obl c t l → c = true → ∀ x ∈ l, ∀ c' v', raw t x = .opt c' v' → c' = true
  | [], _, _, _, hx, _, _, _ => by simp at hx
  | y :: l, h, hc, x, hx, c', v', he => by
    simp only [obl] at h
    rcases List.mem_cons.1 hx with rfl | hx
    · rw [he] at h; exact h.1 hc
    · refine obl_mem (l := l) ?_ hc x hx c' v' he
      split at h
      · exact h.2
      · exact h

theorem rel_ev {St : Nat → Prop} {w : World} {g : Gh} {N : Nat} {t : List (Nat × V)} {a : Act} (h : TSim St w g N t a) {c : Bool} (hc : c = true) {l : List Operand} (ho : obl c t l) :
    ∀ x ∈ l, Rel St w g (ev t x) (a.eval x) := fun x hx => rel_strip (rel_raw h x) (obl_mem ho hc x hx)

/-- The operands whose value must be there. -/
def needs : Op → List Operand
  | .pick c _ _ => [c]
  | .makeFunc _ _ captured => captured.toList
  | op => op.operands.toList

/-- An index of 16 bits as a number. -/
def unb : V → V
  | .b16 x => .int .u16 (x.toNat : Int)
  | v => v
theorem Rel.unb {St : Nat → Prop} {w : World} {g : Gh} {v : V} {x : Value} (h : Rel St w g v x) : Rel St w g (unb v) x := by
  cases v <;> first | exact h | (have := h.b16_inv; subst this; exact .int _ _ _)

def loO : Option Int → Nat
  | none => 0
  | some a => a.toNat
/-- A part of an own row. -/
def sliceO (P : Program) (h : Heap) (t : TypeId) (r : Nat) (lo hi mx : Option V) : Option (V × Prop) :=
  match P.underlying t, h.get r, bnd lo, bnd hi, bnd mx with
  | some (.slice e), some (.rows _ sz n _), some a, some b, some none => if szOf P e = some sz then some (.osl r sz (loO a) (subN n a b), (bnds n a b none).2.2) else none
  | _, _, _, _, _ => none

theorem run_sliceO {P : Program} {St : Nat → Prop} {w : World} {g : Gh} {h : Heap} (hb : BOk St w g h) {t : TypeId} {r : Nat} {v : V} {lo hi mx : Option V} {φ : Prop} {u : Value} {x y z : Option Value}
    (hp : Rel St w g (.own r) u) (rx : ∀ v, lo = some v → ∃ u, x = some u ∧ Rel St w g v u) (ry : ∀ v, hi = some v → ∃ u, y = some u ∧ Rel St w g v u) (rz : ∀ v, mx = some v → ∃ u, z = some u ∧ Rel St w g v u)
    (nx : lo = none → x = none) (ny : hi = none → y = none) (nz : mx = none → z = none)
    (hv : sliceO P h t r lo hi mx = some (v, φ)) (hφ : φ) : ∃ r, (Instr.sliceAt t u x y z).run P w = .ok r w ∧ Rel St w g v r := by
  unfold sliceO at hv
  split at hv
  case h_2 => cases hv
  rename_i e e' sz n f a b hu hh hl hhi hm
  split at hv
  case isFalse => cases hv
  rename_i hs
  cases hv
  have he : P.elem t = e := by simp [Program.elem, hu]
  have hmx : mx = none := by
    cases mx with
    | none => rfl
    | some v => cases v <;> simp [bnd] at hm
  subst hmx
  have fin : ∀ (lo' : Nat) (hi' : Nat), (bnds n a b none).1 = lo' → (bnds n a b none).2.1 = hi' → subN n a b = hi' - lo' ∧ loO a = lo' := by
    intro lo' hi' h1 h2
    subst h1; subst h2
    cases a <;> cases b <;> simp [bnds, subN, loO]
  obtain ⟨hN, hF⟩ := fin _ _ rfl rfl
  rw [hN, hF]
  obtain ⟨u', hgu, xs, ho, hr', h1c⟩ := hb _ _ hh
  have hx := hp.own_inv
  rw [hx] at hgu; cases hgu
  rcases ho.2 with ⟨rfl, hn⟩ | ⟨bb, cap, cur, rfl, _, hg, hncap, hcapm, hsz, htake⟩
  · subst hn
    obtain ⟨m, hrun, h1, h2, h3, h4⟩ := run_sliceBounds (P := P) (s := true) (Nat.le_refl 0) hl hhi hm rx ry rz nx ny nz hφ
    have e1 : (bnds 0 a b none).2.1 = 0 := by omega
    have e0 : (bnds 0 a b none).1 = 0 := by omega
    have hm0 := h4 rfl
    subst hm0
    refine ⟨.slice none 0 (0 - 0), ?_, ?_⟩
    · rw [run_sliceAt_slice _ _ _ _ _ _ (by rw [he]; exact hu)]
      simp [Instr.slice, run_underlying hu, hrun, run_szOf hs, e0, e1]
    · rw [e0, e1]
      exact .osl _ r sz 0 0 none 0 0 ⟨hx, Nat.le_refl _, fun _ => rfl⟩
  · obtain ⟨m, hrun, h1, h2, h3, h4⟩ := run_sliceBounds (P := P) (s := true) hncap hl hhi hm rx ry rz nx ny nz hφ
    have hm0 := h4 rfl
    subst hm0
    generalize (bnds n a b none).1 = lo' at *
    generalize (bnds n a b none).2.1 = hi' at *
    refine ⟨.slice (if m = lo' then some ⟨bb, 0, none⟩ else some ⟨bb, 0 + lo' * sz, none⟩) (hi' - lo') (m - lo'), ?_, ?_⟩
    · rw [run_sliceAt_slice _ _ _ _ _ _ (by rw [he]; exact hu)]
      simp [Instr.slice, run_underlying hu, hrun, run_szOf hs, add_plain]
    · have := Rel.osl (St := St) (w := w) g r sz lo' (hi' - lo') (some bb) n m ⟨hx, by omega, fun h => by cases h⟩
      simp only [Option.map] at this
      by_cases hml : m = lo'
      · rw [if_pos hml]; rwa [if_pos hml] at this
      · rw [if_neg hml, Nat.zero_add]; rwa [if_neg hml] at this

def pval (P : Program) (h : Heap) (wm : Bool) (c : Bool) (t : List (Nat × V)) : Op → Option (V × Prop)
  | .move x => some (ev t x, True)
  | .assign x => some (ev t x, True)
  | .pick cc a b => match ev t cc with
    | .bool cb => match a, b with
      | a, .const (.bool false) => match raw t a with
        | .bool x => some (.bool (cb && x), True)
        | .opt ca (.bool x) => some (.bool (cb && x), c = true → cb = true → ca = true)
        | _ => none
      | .const (.bool true), b => match raw t b with
        | .bool x => some (.bool (cb || x), True)
        | .opt ca (.bool x) => some (.bool (cb || x), c = true → cb = false → ca = true)
        | _ => none
      | _, _ => none
    | _ => none
  | .load ty a => loadV P h ty (ev t a)
  | .nilCheck x => match ev t x with
    | .ptr r o => some (.ptr r o, True)
    | .elem sz n f i off => some (.elem sz n f i off, True)
    | .oelem r sz i off => some (.oelem r sz i off, True)
    | .fn (.func f) cs => some (.fn (.func f) cs, True)
    | _ => none
  | .binOp op ty x y _ => opV P wm op ty (ev t x) (ev t y)
  | .unOp op _ x => unV wm op (ev t x)
  | .convert s d x => convV P h wm s d (ev t x)
  | .makeFunc fn first captured => if first.size = 0 then some (.fn fn (captured.toList.map (ev t)), True) else none
  | .slice ty x lo hi mx => match ev t x with
    | .own r => sliceO P h ty r (lo.map (ev t)) (hi.map (ev t)) (mx.map (ev t))
    | x => sliceV P ty x (lo.map (ev t)) (hi.map (ev t)) (mx.map (ev t))
  | .fieldAddr s x f => (fieldAddrV P s f (ev t x)).map fun v => (v, True)
  | .field s x f => (fieldV P s f (ev t x)).map fun v => (v, True)
  | .indexAddr ty x i => indexAddrV P h ty (ev t x) (unb (ev t i))
  | .index ty x i => indexV P ty (ev t x) (unb (ev t i))
  | .extract x i => match ev t x with
    | .tup vs => if i < vs.length then some (vs.getD i .any, True) else none
    | _ => none
  | .build ty parts => (buildV P ty (parts.toList.map fun p => (p.1, ev t p.2))).map fun v => (v, True)
  | .call cl => match cl.callee with
    | .builtin b => (builtinV P h b cl.argTypes (cl.args.toList.map (ev t))).map fun v => (v, True)
    | _ => none
  | _ => none

theorem getD_map {α β : Type} (f : α → β) (l : List α) (i : Nat) (d : β) (e : α) (hi : i < l.length) : (l.map f).getD i d = f (l.getD i e) := by
  simp [List.getD_eq_getElem?_getD, hi]

theorem run_pval {P : Program} {St : Nat → Prop} {w : World} {g : Gh} {h : Heap} (hb : BOk St w g h) {N : Nat} {t : List (Nat × V)} {a : Act} (ht : TSim St w g N t a) {wm c : Bool} (hc : c = true)
    {o : Oper} {v : V} {φ : Prop} (hv : pval P h wm c t o.op = some (v, φ)) (hφ : φ) (ho : obl c t (needs o.op)) :
    ∃ x, (execOp a.eval o).run P w = .ok (.value x) w ∧ Rel St w g v x := by
  have E := rel_ev ht hc ho
  obtain ⟨dst, op, ty0, pos, after, guard⟩ := o
  dsimp only at hv ho E
  have lift : ∀ {s : Sem Value}, (∃ x, s.run P w = .ok x w ∧ Rel St w g v x) → ∃ x, (do pure (.value (← s)) : Sem Next).run P w = .ok (.value x) w ∧ Rel St w g v x := by
    rintro s ⟨x, h1, h2⟩
    exact ⟨x, by simp [h1], h2⟩
  cases op <;> simp only [pval, reduceCtorEq] at hv <;> simp only [execOp]
  case move x => cases hv; exact ⟨_, rfl, E x (by simp [needs, Op.operands])⟩
  case assign x => cases hv; exact ⟨_, rfl, E x (by simp [needs, Op.operands])⟩
  case pick cc x y =>
    split at hv
    case h_2 => cases hv
    rename_i cb hcb
    have h1 := E cc (by simp [needs])
    rw [hcb] at h1
    have h2 := h1.bool_inv
    simp only [Sem.run_bind, h2, asBool, Sem.run_pure, Result.andThen_ok]
    split at hv
    · have hf : ∀ {z : Bool} {u : Value}, (cb = true → Rel St w g (.bool z) u) → ∃ x, Result.ok (Next.value (if cb = true then u else a.eval (.const (.bool false)))) w = .ok (Next.value x) w ∧ Rel St w g (.bool (cb && z)) x := by
        intro z u hz
        cases cb with
        | false => exact ⟨.bool false, rfl, .bool _ _⟩
        | true => exact ⟨_, rfl, by simpa using hz rfl⟩
      split at hv
      · rename_i z hz; cases hv; exact hf fun _ => by rw [← hz]; exact rel_raw ht x
      · rename_i ca z hz; cases hv
        exact hf fun hcb => by have := rel_raw ht x; rw [hz] at this; exact this.opt_inv (hφ hc hcb)
      · cases hv
    · have hf : ∀ {z : Bool} {u : Value}, (cb = false → Rel St w g (.bool z) u) → ∃ x, Result.ok (Next.value (if cb = true then a.eval (.const (.bool true)) else u)) w = .ok (Next.value x) w ∧ Rel St w g (.bool (cb || z)) x := by
        intro z u hz
        cases cb with
        | true => exact ⟨.bool true, rfl, by simpa using Rel.bool _ _⟩
        | false => exact ⟨_, rfl, by simpa using hz rfl⟩
      split at hv
      · rename_i z hz; cases hv; exact hf fun _ => by rw [← hz]; exact rel_raw ht y
      · rename_i ca z hz; cases hv
        exact hf fun hcb => by have := rel_raw ht y; rw [hz] at this; exact this.opt_inv (hφ hc hcb)
      · cases hv
    · cases hv
  case load ty x => exact lift (run_loadV hb (E x (by simp [needs, Op.operands])) hv hφ)
  case nilCheck x =>
    have h1 := E x (by simp [needs, Op.operands])
    generalize a.eval x = u at h1
    split at hv
    · rename_i r off he; cases hv; rw [he] at h1; cases h1 with | ptr _ _ _ b hg => exact ⟨_, rfl, .ptr _ _ _ b hg⟩
    · rename_i sz n f i off he; cases hv; rw [he] at h1; cases h1 with | elem _ _ _ _ _ _ b o x hi hs hc h1 hr => exact ⟨_, rfl, .elem _ sz n f i off b o x hi hs hc h1 hr⟩
    · rename_i r sz i off he; cases hv; rw [he] at h1; cases h1 with | oelem _ _ _ _ _ b n cap h => exact ⟨_, rfl, .oelem _ r sz i off b n cap h⟩
    · rename_i f cs he; cases hv; rw [he] at h1; cases h1 with | fn _ _ _ vs hl h => exact ⟨_, rfl, .fn _ _ cs vs hl h⟩
    · cases hv
  case binOp op ty x y yt => exact lift (run_opV (E x (by simp [needs, Op.operands])) (E y (by simp [needs, Op.operands])) hv hφ)
  case unOp op ty x => exact lift (run_unV (E x (by simp [needs, Op.operands])) hv hφ)
  case convert s d x => exact lift (run_convV hb (E x (by simp [needs, Op.operands])) hv hφ)
  case makeFunc fn first captured =>
    split at hv
    case isFalse => cases hv
    rename_i hf
    cases hv
    obtain rfl : first = #[] := Array.eq_empty_of_size_eq_zero hf
    refine lift ⟨.func fn #[] (captured.map a.eval), by simp [Instr.makeFunc], .fn _ _ _ _ (by simp) fun i hi => ?_⟩
    have hi' : i < captured.size := by simpa using hi
    have := E captured[i] (by simp [needs])
    rw [getD_map _ _ _ _ (.const default) (by simpa using hi')]
    simpa [List.getD_eq_getElem?_getD, hi'] using this
  case slice ty x lo hi mx =>
    have hx := E x (by simp [needs, Op.operands])
    have hlo : ∀ v, lo.map (ev t) = some v → ∃ u, lo.map a.eval = some u ∧ Rel St w g v u := by
      rintro v hv'; cases lo with
      | none => cases hv'
      | some l => cases hv'; exact ⟨_, rfl, E l (by simp [needs, Op.operands])⟩
    have hhi : ∀ v, hi.map (ev t) = some v → ∃ u, hi.map a.eval = some u ∧ Rel St w g v u := by
      rintro v hv'; cases hi with
      | none => cases hv'
      | some l => cases hv'; exact ⟨_, rfl, E l (by simp [needs, Op.operands])⟩
    have hmx : ∀ v, mx.map (ev t) = some v → ∃ u, mx.map a.eval = some u ∧ Rel St w g v u := by
      rintro v hv'; cases mx with
      | none => cases hv'
      | some l => cases hv'; exact ⟨_, rfl, E l (by simp [needs, Op.operands])⟩
    split at hv
    · rename_i r he
      rw [he] at hx
      refine lift (run_sliceO hb hx hlo hhi hmx ?_ ?_ ?_ hv hφ)
      · intro e; cases lo <;> simp_all
      · intro e; cases hi <;> simp_all
      · intro e; cases mx <;> simp_all
    refine lift (run_sliceV hx ?_ ?_ ?_ ?_ ?_ ?_ hv hφ)
    · rintro v hv'; cases lo with
      | none => cases hv'
      | some l => cases hv'; exact ⟨_, rfl, E l (by simp [needs, Op.operands])⟩
    · rintro v hv'; cases hi with
      | none => cases hv'
      | some l => cases hv'; exact ⟨_, rfl, E l (by simp [needs, Op.operands])⟩
    · rintro v hv'; cases mx with
      | none => cases hv'
      | some l => cases hv'; exact ⟨_, rfl, E l (by simp [needs, Op.operands])⟩
    · intro e; cases lo <;> simp_all
    · intro e; cases hi <;> simp_all
    · intro e; cases mx <;> simp_all
  case fieldAddr s x f =>
    rw [Option.map_eq_some_iff] at hv; obtain ⟨v', hv', he⟩ := hv; cases he
    exact lift (run_fieldAddrV (E x (by simp [needs, Op.operands])) hv')
  case field s x f =>
    rw [Option.map_eq_some_iff] at hv; obtain ⟨v', hv', he⟩ := hv; cases he
    exact lift (run_fieldV (E x (by simp [needs, Op.operands])) hv')
  case indexAddr ty x i => exact lift (run_indexAddrV hb (E x (by simp [needs, Op.operands])) (E i (by simp [needs, Op.operands])).unb hv hφ)
  case index ty x i => exact lift (run_indexV (E x (by simp [needs, Op.operands])) (E i (by simp [needs, Op.operands])).unb hv hφ)
  case extract x i =>
    split at hv
    case h_2 => cases hv
    rename_i vs he
    split at hv
    case isFalse => cases hv
    rename_i hi
    cases hv
    have h1 := E x (by simp [needs, Op.operands])
    rw [he] at h1
    obtain ⟨us, hu, hl, hr⟩ := h1.tup_inv
    refine lift ⟨us.getD i undef, ?_, hr i hi⟩
    have : i < us.size := by omega
    simp [Instr.extract, hu, this]
  case build ty parts =>
    rw [Option.map_eq_some_iff] at hv; obtain ⟨v', hv', he⟩ := hv; cases he
    refine lift (run_buildV hv' (by simp) fun i hi => ?_)
    have hi' : i < parts.size := by simpa using hi
    have h2 : (parts.toList.map fun p => (p.1, ev t p.2)).getD i (0, .any) = (parts[i].1, ev t parts[i].2) := by simp [List.getD_eq_getElem?_getD, hi']
    have h3 : (parts.map fun p => (p.1, a.eval p.2)).getD i (0, undef) = (parts[i].1, a.eval parts[i].2) := by simp [hi']
    rw [h2]
    have h4 := E parts[i].2 (by simp only [needs, Op.operands]; simp; exact ⟨_, Array.getElem_mem hi'⟩)
    constructor
    · have := congrArg Prod.fst h3; simpa using this
    · have := congrArg Prod.snd h3
      simp only at this ⊢
      rw [show (parts.map fun (x : Nat × Operand) => match x with | (i, x) => (i, a.eval x)) = (parts.map fun p => (p.1, a.eval p.2)) from rfl, this]
      exact h4
  case call cl =>
    split at hv
    case h_2 => cases hv
    rename_i b hcal
    rw [Option.map_eq_some_iff] at hv; obtain ⟨v', hv', he⟩ := hv; cases he
    have hargs : ∀ i, i < (cl.args.toList.map (ev t)).length → Rel St w g ((cl.args.toList.map (ev t)).getD i .any) ((cl.args.map a.eval).getD i undef) := by
      intro i hi
      have hi' : i < cl.args.size := by simpa using hi
      have := E cl.args[i] (by simp [needs, Op.operands, Call.operands, hcal])
      rw [getD_map _ _ _ _ (.const default) (by simpa using hi')]
      simpa [List.getD_eq_getElem?_getD, hi'] using this
    obtain ⟨y, hy, hr⟩ := run_builtinV (P := P) hb (us := cl.args.map a.eval) (by simp) hargs hv' ty0 (cl.args.map fun | .const _ => true | _ => false)
    exact ⟨y, by simp only [resolve, hcal, Sem.run_bind, Sem.run_pure, Result.andThen_ok, invoke]; exact hy, hr⟩

end Go.Abs
namespace Go.Abs
open Go

def Gh.set (g : Gh) (d : Nat) (v : Value) : Gh := fun k => if k = d then some v else g k
theorem Gh.set_ne {g : Gh} {d k : Nat} {v : Value} (h : k ≠ d) : g.set d v k = g k := by simp [Gh.set, h]
theorem Keep.set {z : Start} {g : Gh} {b : List Nat} (h : Keep z g b) {d : Nat} (hd : d ∉ b) (v : Value) : Keep z (g.set d v) b := by
  intro r hr
  have : r ≠ d := fun e => hd (e ▸ hr)
  rw [Gh.set_ne this]; exact h r hr
theorem KD.set {z : Start} {St : Nat → Prop} {w w' : World} {g : Gh} {b : List Nat} {a a' : Act} (h : KD z St w g b a) {d : Nat} (hd : d ∉ b) (v : Value) (hw : ∀ k, St k → w'.heap[k]? = w.heap[k]?) (ha : a'.defers = a.defers) : KD z St w' (g.set d v) b a' :=
  h.to (fun _ h => h) hw ha (fun _r hr => Gh.set_ne (fun e => hd (e ▸ hr)))
theorem put_defers (a : Act) (d : Option Nat) (v : Value) : (a.put d v).defers = a.defers := by cases d <;> rfl
theorem Gh.set_self {g : Gh} {d : Nat} {v : Value} (h : g d = some v) : g.set d v = g := by
  funext k; by_cases hk : k = d
  · subst hk; simp [Gh.set, h]
  · simp [Gh.set, hk]

mutual
def V.closed : V → Bool
  | .own _ => false
  | .ptr _ _ => false
  | .oelem _ _ _ _ => false
  | .osl _ _ _ _ => false
  | .agg cs => V.closedAll cs
  | .tup cs => V.closedAll cs
  | .fn _ cs => V.closedAll cs
  | .opt _ v => V.closed v
  | _ => true
def V.closedAll : List V → Bool
  | [] => true
  | v :: l => V.closed v && V.closedAll l
end
theorem V.closedAll_get : ∀ {l : List V} {i : Nat}, V.closedAll l = true → V.closed (l.getD i .any) = true
  | [], i, _ => by simp [V.closed]
  | v :: l, 0, h => by simp only [V.closedAll, Bool.and_eq_true] at h; simpa using h.1
  | v :: l, i + 1, h => by simp only [V.closedAll, Bool.and_eq_true] at h; simpa using V.closedAll_get (i := i) h.2

theorem Rel.closed {St : Nat → Prop} {w : World} : ∀ {g : Gh} {v : V} {x : Value}, Rel St w g v x → v.closed = true → ∀ g', Rel St w g' v x := by
  intro g v x h
  induction h with
  | any => intro _ _; exact .any _ _
  | bool => intro _ _; exact .bool _ _
  | int => intro _ _; exact .int _ _ _
  | b16 => intro _ _; exact .b16 _ _
  | str g l s h => intro _ _; exact .str _ _ _ h
  | agg g cs vs hl h ih => intro e g'; simp only [V.closed] at e; exact .agg _ _ _ hl fun i hi => ih i hi (V.closedAll_get e) g'
  | tup g cs vs hl h ih => intro e g'; simp only [V.closed] at e; exact .tup _ _ _ hl fun i hi => ih i hi (V.closedAll_get e) g'
  | nils => intro _ _; exact .nils _
  | arr0 => intro _ _; exact .arr0 _ _ _
  | arr g sz n f b o cap x hcap hmax hs hc h1 hr ih => intro _ _; exact .arr _ sz n f b o cap x hcap hmax hs hc h1 hr
  | elem g sz n f i off b o x hi hs hc h1 hr => intro _ _; exact .elem _ sz n f i off b o x hi hs hc h1 hr
  | own g r v h h1 => intro e; simp [V.closed] at e
  | ptr g r off b h => intro e; simp [V.closed] at e
  | oelem g r sz i off b n cap h => intro e; simp [V.closed] at e
  | osl g r sz i off b n cap h => intro e; simp [V.closed] at e
  | fn g f cs vs hl h ih => intro e g'; simp only [V.closed] at e; exact .fn _ _ _ _ hl fun i hi => ih i hi (V.closedAll_get e) g'
  | lit => intro _ _; exact .lit _ _
  | abool g p b h => intro _ _; exact .abool _ p b h
  | mp g n kf vf b es hs ho hn hb hk hv => intro _ _; exact .mp _ n kf vf b es hs ho hn hb hk hv
  | opt g c v x h h0 ih => intro e g'; simp only [V.closed] at e; exact .opt _ _ _ _ (fun hc => ih hc e g') h0

/-- One own block, number 'd', is bound anew, or turned in place. -/
theorem WSim.change {z : Start} {St : Nat → Prop} {g : Gh} {h : Heap} {w w' : World} (hs : WSim z St g h w) {d : Nat} {v' : Value} {blk : Blk} {ro : Option Nat}
    (hro : ∀ k, ro = some k → ∃ b v, h.get d = some b ∧ g d = some v ∧ blockOf v = some k)
    (hos : w'.os = w.os) (htape : w'.tape = w.tape) (hout : w'.output = w.output) (hsize : w.heap.size ≤ w'.heap.size)
    (hw : ∀ k, k < w.heap.size → some k ≠ ro → w'.heap[k]? = w.heap[k]?)
    (hfresh : Heap.fresh d (h.del d) = true ∨ g d = some v')
    (hnew : ∀ k, blockOf v' = some k → ro = some k ∨ (w.heap.size ≤ k ∧ k < w'.heap.size))
    (hok : BlkOk St w' (g.set d v') v' blk) : WSim z St (g.set d v') ((d, blk) :: h.del d) w' := by
  have hStne : ∀ k, St k → some k ≠ ro := by
    intro k hk e
    obtain ⟨b, v, h1, h2, h3⟩ := hro k e.symm
    exact (hs.ow d b v h1 h2 k h3).1 hk
  have hStw : ∀ k, St k → w'.heap[k]? = w.heap[k]? := fun k hk => hw k (hs.st1 k hk).1 (hStne k hk)
  have hget : ∀ r, r ≠ d → Heap.get ((d, blk) :: h.del d) r = h.get r := fun r hr => by
    rw [Heap.get_cons, if_neg (Ne.symm hr), Heap.get_del, if_neg hr]
  have hold : ∀ r b v k, r ≠ d → h.get r = some b → g r = some v → blockOf v = some k → w'.heap[k]? = w.heap[k]? := by
    intro r b v k hr h1 h2 h3
    obtain ⟨v2, h4, h5⟩ := hs.ok r b h1
    rw [h2] at h4; cases h4
    refine hw k (h5.lt k h3) fun e => ?_
    obtain ⟨b2, v2, h6, h7, h8⟩ := hro k e.symm
    exact hs.sep r d b b2 v v2 h1 h6 h2 h7 hr k h3 h8
  refine ⟨⟨hos.trans hs.frm.os, htape.trans hs.frm.tape, hout.trans hs.frm.output, Nat.le_trans hs.frm.size hsize, fun k hk hno => ?_⟩, hs.st0, fun k hk => ⟨Nat.lt_of_lt_of_le (hs.st1 k hk).1 hsize, (hs.st1 k hk).2⟩, ?_, ?_, ?_⟩
  · rw [← hs.frm.block k hk hno]
    refine hw k (Nat.lt_of_lt_of_le hk hs.frm.size) fun e => ?_
    obtain ⟨b, v, h1, h2, h3⟩ := hro k e.symm
    rcases (hs.ow d b v h1 h2 k h3).2 with h4 | h4
    · exact hno h4
    · omega
  · intro r b v h1 h2 k h3
    by_cases hr : r = d
    · subst hr
      have : v = v' := by simpa [Gh.set] using h2.symm
      subst this
      rcases hnew k h3 with h4 | h4
      · obtain ⟨b2, v2, h5, h6, h7⟩ := hro k h4
        exact hs.ow r b2 v2 h5 h6 k h7
      · exact ⟨fun hSt => by have := (hs.st1 k hSt).1; omega, .inr (Nat.le_trans hs.frm.size h4.1)⟩
    · rw [hget r hr] at h1
      rw [Gh.set_ne hr] at h2
      exact hs.ow r b v h1 h2 k h3
  · intro r b h1
    by_cases hr : r = d
    · subst hr
      have : b = blk := by simpa [Heap.get_cons] using h1.symm
      subst this
      exact ⟨v', by simp [Gh.set], hok⟩
    · rw [hget r hr] at h1
      obtain ⟨v, h2, h3⟩ := hs.ok r b h1
      refine ⟨v, by rw [Gh.set_ne hr]; exact h2, h3.mono (fun _ hk => hk) hStw (fun k hk => hold r b v k hr h1 h2 hk) (r := d) (fun k hk => Gh.set_ne hk) ?_⟩
      rcases hfresh with hf | hf
      · exact .inl (Heap.fresh_get hf (by rw [Heap.get_del, if_neg hr]; exact h1))
      · exact .inr (Gh.set_self hf)
  · intro r r' b b' v v2 h1 h1' h2 h2' hne k hk hk'
    have lt : ∀ r b v k, r ≠ d → Heap.get ((d, blk) :: h.del d) r = some b → g.set d v' r = some v → blockOf v = some k → k < w.heap.size := by
      intro r b v k hr h1 h2 h3
      rw [hget r hr] at h1; rw [Gh.set_ne hr] at h2
      obtain ⟨v2, h4, h5⟩ := hs.ok r b h1
      rw [h2] at h4; cases h4
      exact h5.lt k h3
    have one : ∀ r b v k, r ≠ d → Heap.get ((d, blk) :: h.del d) r = some b → g.set d v' r = some v → blockOf v = some k → blockOf v' = some k → False := by
      intro r b v k hr h1 h2 h3 h4
      rcases hnew k h4 with h5 | h5
      · obtain ⟨b2, v2, h6, h7, h8⟩ := hro k h5
        rw [hget r hr] at h1; rw [Gh.set_ne hr] at h2
        exact hs.sep r d b b2 v v2 h1 h6 h2 h7 hr k h3 h8
      · have := lt r b v k hr h1 h2 h3; omega
    by_cases hr : r = d
    · have hr' : r' ≠ d := fun e => hne (hr.trans e.symm)
      subst hr
      have : v = v' := by simpa [Gh.set] using h2.symm
      subst this
      exact one r' b' v2 k hr' h1' h2' hk' hk
    · by_cases hr' : r' = d
      · subst hr'
        have : v2 = v' := by simpa [Gh.set] using h2'.symm
        subst this
        exact one r b v k hr h1 h2 hk hk'
      · rw [hget r hr] at h1; rw [hget r' hr'] at h1'
        rw [Gh.set_ne hr] at h2; rw [Gh.set_ne hr'] at h2'
        exact hs.sep r r' b b' v v2 h1 h1' h2 h2' hne k hk hk'

/-! ### Temporaries -/
def tfresh (d : Nat) : List (Nat × V) → Bool
  | [] => true
  | (_, v) :: t => v.fresh d && tfresh d t
theorem tfresh_get {d : Nat} : ∀ {t : List (Nat × V)} {k : Nat}, tfresh d t = true → (tget t k).fresh d = true
  | [], _, _ => rfl
  | (a, v) :: t, k, h => by
    simp only [tfresh, Bool.and_eq_true] at h
    simp only [tget]
    split
    · exact h.1
    · exact tfresh_get h.2
def tdrop (d : Nat) (t : List (Nat × V)) : List (Nat × V) := t.map fun p => (p.1, if p.2.fresh d then p.2 else .any)
theorem tget_drop (d k : Nat) : ∀ t : List (Nat × V), tget (tdrop d t) k = if (tget t k).fresh d then tget t k else .any
  | [] => by simp [tdrop, tget, V.fresh]
  | (a, v) :: t => by
    have ih := tget_drop d k t
    unfold tdrop at ih ⊢
    simp only [List.map_cons, tget]
    split
    · rfl
    · exact ih

theorem TSim.change {St : Nat → Prop} {w w' : World} {g g' : Gh} {N : Nat} {t : List (Nat × V)} {a : Act} (h : TSim St w g N t a) (hStw : ∀ k, St k → w'.heap[k]? = w.heap[k]?)
    {d : Nat} (hg : ∀ k, k ≠ d → g' k = g k) (hf : tfresh d t = true ∨ g' = g) : TSim St w' g' N t a := by
  refine ⟨h.1, h.2.1, fun k => ?_⟩
  rcases hf with hf | rfl
  · exact ((h.2.2 k).rebind hg (tfresh_get hf)).mono (fun _ hk => hk) hStw
  · exact (h.2.2 k).mono (fun _ hk => hk) hStw
theorem TSim.drop {St : Nat → Prop} {w w' : World} {g g' : Gh} {N : Nat} {t : List (Nat × V)} {a : Act} (h : TSim St w g N t a) (hStw : ∀ k, St k → w'.heap[k]? = w.heap[k]?)
    {d : Nat} (hg : ∀ k, k ≠ d → g' k = g k) : TSim St w' g' N (tdrop d t) a := by
  refine ⟨h.1, h.2.1, fun k => ?_⟩
  rw [tget_drop]
  split
  · rename_i hf; exact ((h.2.2 k).rebind hg hf).mono (fun _ hk => hk) hStw
  · exact .any _ _
theorem TSim.put {St : Nat → Prop} {w : World} {g : Gh} {N : Nat} {t : List (Nat × V)} {a : Act} (h : TSim St w g N t a) {d : Nat} (hd : d < N) {v : V} {x : Value} (hv : Rel St w g v x) :
    TSim St w g N ((d, v) :: t) (a.put (some d) x) := by
  refine ⟨⟨h.1.1, by simpa [Act.put] using h.1.2⟩, by simp [Act.put, h.2.1], fun k => ?_⟩
  simp only [tget]
  split
  · rename_i hk; subst hk
    have h2 : d < a.tmps.size := by rw [h.2.1]; exact hd
    have h1 := h.1.2
    have h3 : d < G0 := by omega
    rw [sval, if_pos h3]
    simpa [Act.put, h2] using hv
  · rename_i hk
    have := h.2.2 k
    unfold sval at this ⊢
    split
    · rename_i hk2; rw [if_pos hk2] at this; simpa [Act.put, Array.getElem?_setIfInBounds_ne hk] using this
    · rename_i hk2; rw [if_neg hk2] at this; exact this
theorem TSim.get_any {St : Nat → Prop} {w : World} {g : Gh} {N : Nat} {t : List (Nat × V)} {a : Act} (h : TSim St w g N t a) {t' : List (Nat × V)} (ht : ∀ k, tget t' k = tget t k ∨ tget t' k = .any) : TSim St w g N t' a :=
  ⟨h.1, h.2.1, fun k => by rcases ht k with e | e <;> rw [e]; exact h.2.2 k; exact .any _ _⟩

def V.isOne (v : V) : Bool := v.isVal && (match v with | .agg _ => false | _ => true)
theorem Rel.isOne {St : Nat → Prop} {w : World} {g : Gh} {v : V} {x : Value} (h : Rel St w g v x) (hv : v.isOne = true) : x.oneCell' = true := by
  unfold V.isOne at hv
  simp only [Bool.and_eq_true] at hv
  refine h.one hv.1 fun cs e => ?_
  subst e; simp at hv

theorem all_get {p : V → Bool} {l : List V} (h : l.all p = true) {i : Nat} (hi : i < l.length) : p (l.getD i .any) = true := by
  have := List.all_eq_true.1 h l[i] (by simp)
  simpa [List.getD_eq_getElem?_getD, hi] using this

/-! ### A new block of cells -/
theorem sim_box {z : Start} {St : Nat → Prop} {g : Gh} {h : Heap} {w : World} (hs : WSim z St g h w) {N : Nat} {t : List (Nat × V)} {a : Act} (ht : TSim St w g N t a)
    {d : Nat} {e : TypeId} {v : V} {x : Value} (hv : Rel St w g v x) (hval : v.isVal = true) (h1 : v.cells.all V.isOne = true) (hvf : V.freshAll d v.cells = true)
    (htf : tfresh d t = true) (hhf : Heap.fresh d (h.del d) = true) {dt : Nat} (hdN : dt < N) {b : List Nat} {o : Nat} (hk : KD z St w g b a) (hdb : d ∉ b) :
    Sim z ⟨N, (dt, .ptr d 0) :: t, (d, .cells e v.cells) :: h.del d, b, o⟩ (a.put (some dt) (.pointer (some ⟨w.heap.size, 0, none⟩))) (w.alloc (.cells x.cells e)) := by
  obtain ⟨hcl, hcr⟩ := hv.cells hval
  have hStw : ∀ k, St k → (w.alloc (.cells x.cells e)).heap[k]? = w.heap[k]? := fun k hk => heap_alloc_old w _ k (hs.st1 k hk).1
  refine ⟨St, g.set d (.pointer (some ⟨w.heap.size, 0, none⟩)), ?_, ?_, hk.set hdb _ hStw (put_defers ..)⟩
  · refine hs.change (ro := none) (fun k hk => by cases hk) rfl rfl rfl (by simp) (fun k hk _ => heap_alloc_old w _ k hk) (.inl hhf) (fun k hk => ?_) ?_
    · simp [blockOf] at hk; subst hk; exact .inr ⟨Nat.le_refl _, by simp⟩
    · refine ⟨w.heap.size, x.cells, rfl, heap_alloc_new w _, hcl, fun i hi => ?_, fun i hi => (hcr i hi).isOne (all_get h1 hi)⟩
      exact ((hcr i hi).rebind (fun k hk => Gh.set_ne hk) (V.freshAll_get hvf)).mono (fun _ hk => hk) hStw
  · exact (ht.change hStw (fun k hk => Gh.set_ne hk) (.inl htf)).put hdN (.ptr _ d 0 w.heap.size (by simp [Gh.set]))

/-! ### Stores -/
theorem getD_setCells : ∀ (l : List V) (cs : List V) (off i : Nat), off + l.length ≤ cs.length → (setCells cs off l).getD i .any = if off ≤ i ∧ i < off + l.length then l.getD (i - off) .any else cs.getD i .any
  | [], cs, off, i, _ => by simp [setCells]; intros; omega
  | v :: l, cs, off, i, h => by
    simp only [List.length_cons] at h
    simp only [setCells]
    rw [getD_setCells l (cs.set off v) (off + 1) i (by simp; omega)]
    by_cases h1 : i = off
    · subst h1
      rw [if_neg (by omega), if_pos (by simp)]
      have : i < cs.length := by omega
      simp [List.getD_eq_getElem?_getD, this]
    · by_cases h2 : off + 1 ≤ i ∧ i < off + 1 + l.length
      · rw [if_pos h2, if_pos (by simp; omega)]
        have : i - off = (i - (off + 1)) + 1 := by omega
        rw [this, List.getD_cons_succ]
      · rw [if_neg h2, if_neg (by simp; omega)]
        have : off ≠ i := Ne.symm h1
        simp [List.getD_eq_getElem?_getD, List.getElem?_set_ne this]

theorem splice_get (cur : List Value) (o : Nat) (vs : List Value) (h : o + vs.length ≤ cur.length) (i : Nat) :
    (cur.take o ++ vs ++ cur.drop (o + vs.length)).getD i undef = if o ≤ i ∧ i < o + vs.length then vs.getD (i - o) undef else cur.getD i undef := by
  simp only [List.getD_eq_getElem?_getD, List.getElem?_append, List.length_append, List.length_take, List.getElem?_take, List.getElem?_drop]
  have e : min o cur.length = o := by omega
  simp only [e]
  by_cases h1 : i < o
  · rw [if_pos (by omega), if_pos h1, if_pos h1, if_neg (by omega)]
  · by_cases h2 : i < o + vs.length
    · rw [if_pos h2, if_neg h1, if_pos (by omega)]
    · rw [if_neg h2, if_neg (by omega)]
      congr 2; omega

theorem run_storeVar {P : Program} {w : World} {t e : TypeId} {k b o : Nat} {x : Value} {cur : Array Value} (hs : szOf P t = some k) (hx : x.cells.size = k) (hb : w.heap[b]? = some (.cells cur e (0, 0))) (hle : o + k ≤ cur.size)
    (h1 : ∀ i, i < k → (x.cells.getD i undef).oneCell' = true) :
    (storeVar t ⟨b, o, none⟩ x).run P w = .ok () (w.setRow b (cur.toList.take o ++ x.cells.toList ++ cur.toList.drop (o + x.cells.toList.length)).toArray) := by
  have h := run_storeCells_at P b o e x.cells.toList 0 cur w hb (by simpa [hx] using hle) (fun v hv => by
    obtain ⟨i, hi, rfl⟩ := List.getElem_of_mem hv
    have hi' : i < x.cells.size := by simpa using hi
    have := h1 i (by omega)
    simpa [hi'] using this)
  simp only [Nat.add_zero] at h
  simp only [storeVar, Sem.run_bind, run_szOf hs, Result.andThen_ok, Sem.run_ite]
  rw [if_neg (by simp [hx])]
  exact h

theorem sim_store {P : Program} {z : Start} {St : Nat → Prop} {g : Gh} {h : Heap} {w : World} (hs : WSim z St g h w) {N : Nat} {t : List (Nat × V)} {a : Act} (ht : TSim St w g N t a)
    {ty : TypeId} {r off k : Nat} {e : TypeId} {cs : List V} {p x : Value} {v : V} (hp : Rel St w g (.ptr r off) p) (hv : Rel St w g v x) (hh : h.get r = some (.cells e cs)) (hk : szOf P ty = some k)
    (hval : v.isVal = true) (hlen : v.cells.length = k) (h1 : v.cells.all V.isOne = true) (hle : off + k ≤ cs.length) {b : List Nat} {o : Nat} (hkeep : KD z St w g b a) :
    ∃ w', (Instr.storeAt ty p x).run P w = .ok () w' ∧ Sim z ⟨N, t, (r, .cells e (setCells cs off v.cells)) :: h.del r, b, o⟩ a w' := by
  obtain ⟨hcl, hcr⟩ := hv.cells hval
  obtain ⟨u, hgu, b, vals, rfl, hb, hl, hr, hone⟩ := hs.ok r _ hh
  cases hp with
  | ptr _ _ _ b' hg =>
    rw [hg] at hgu; cases hgu
    have hrun := run_storeVar (P := P) (t := ty) (o := off) (x := x) hk (by omega) hb (by omega) (fun i hi => (hcr i (by omega)).isOne (all_get h1 (by omega)))
    have hnb : ¬ St b := (hs.ow r _ _ hh hg b rfl).1
    have hStw : ∀ k, St k → (w.setRow b (vals.toList.take off ++ x.cells.toList ++ vals.toList.drop (off + x.cells.toList.length)).toArray).heap[k]? = w.heap[k]? :=
      fun k hk => setRow_other w b k _ (fun e => hnb (e ▸ hk))
    refine ⟨_, by simp only [Instr.storeAt, Instr.sureAddr, Sem.run_bind, Sem.run_pure, Result.andThen_ok]; exact hrun, St, g.set r (.pointer (some ⟨b, 0, none⟩)), ?_, ?_, by rw [Gh.set_self hg]; exact hkeep.to (fun _ h => h) hStw rfl (fun _ _ => rfl)⟩
    · refine hs.change (ro := some b) (fun k hk => ?_) rfl rfl rfl (by simp) (fun k hk hne => setRow_other w b k _ (fun e => hne (by rw [e]))) (.inr hg) (fun k hk => ?_) ?_
      · cases hk; exact ⟨_, _, hh, hg, rfl⟩
      · simp [blockOf] at hk; subst hk; exact .inl rfl
      · have hset : ∀ i, ((vals.toList.take off ++ x.cells.toList ++ vals.toList.drop (off + x.cells.toList.length)).toArray.getD i undef) = if off ≤ i ∧ i < off + k then x.cells.getD (i - off) undef else vals.getD i undef := by
          intro i
          have := splice_get vals.toList off x.cells.toList (by simp; omega) i
          have hk' : x.cells.toList.length = k := by simp; omega
          rw [hk'] at this
          simpa [List.getD_eq_getElem?_getD, hk'] using this
        refine ⟨b, _, rfl, setRow_heap w b vals _ e _ hb, ?_, fun i hi => ?_, fun i hi => ?_⟩
        · rw [setCells_length]; simp; omega
        · rw [setCells_length] at hi
          rw [hset, getD_setCells _ _ _ _ (by omega), hlen, Gh.set_self hg]
          split
          · rename_i h2; exact (hcr _ (by omega)).mono (fun _ h => h) hStw
          · exact (hr i hi).mono (fun _ h => h) hStw
        · rw [setCells_length] at hi
          rw [hset]
          split
          · rename_i h2; exact (hcr _ (by omega)).isOne (all_get h1 (by omega))
          · exact hone i hi
    · rw [Gh.set_self hg]
      exact ht.change hStw (d := r) (fun k hk => rfl) (.inr rfl)

/-- A part of one element of a row turned. -/
def updF (f : Nat → Nat → V) (i off : Nat) (cs : List V) : Nat → Nat → V :=
  fun i' j' => if i' = i ∧ off ≤ j' ∧ j' < off + cs.length then cs.getD (j' - off) .any else f i' j'

theorem sim_storeRow {P : Program} {z : Start} {St : Nat → Prop} {g : Gh} {h : Heap} {w : World} (hs : WSim z St g h w) {N : Nat} {t : List (Nat × V)} {a : Act} (ht : TSim St w g N t a)
    {ty : TypeId} {r sz i off k n : Nat} {e : TypeId} {f : Nat → Nat → V} {p x : Value} {v : V} (hp : Rel St w g (.oelem r sz i off) p) (hv : Rel St w g v x) (hh : h.get r = some (.rows e sz n f)) (hk : szOf P ty = some k)
    (hval : v.isVal = true) (hlen : v.cells.length = k) (h1 : v.cells.all V.isOne = true) (hcl0 : V.closedAll v.cells = true) (hle : off + k ≤ sz) (hin : i < n) {b : List Nat} {o : Nat} (hkeep : KD z St w g b a) :
    ∃ w', (Instr.storeAt ty p x).run P w = .ok () w' ∧ Sim z ⟨N, t, (r, .rows e sz n (updF f i off v.cells)) :: h.del r, b, o⟩ a w' := by
  obtain ⟨hcl, hcr⟩ := hv.cells hval
  obtain ⟨u, hgu, xs, ho, hr, hone⟩ := hs.ok r _ hh
  cases hp with
  | oelem _ _ _ _ _ b n' cap hg =>
    rw [hg] at hgu; cases hgu
    rcases ho.2 with ⟨hu, hn⟩ | ⟨gg, cap', cur, hu, _, hb, hncap, hcapm, hsz, htake⟩
    · cases hu
    cases hu
    have hlenxs := ho.1
    have hfit : n * sz ≤ cur.size := by rw [hsz]; exact Nat.mul_le_mul_right _ hncap
    have hisz : i * sz + sz ≤ n * sz := by have := Nat.mul_le_mul_right sz (show i + 1 ≤ n from hin); rw [Nat.add_mul] at this; omega
    have hrun := run_storeVar (P := P) (t := ty) (o := i * sz + off) (x := x) hk (by omega) hb (by omega) (fun j hj => (hcr j (by omega)).isOne (all_get h1 (by omega)))
    have hnb : ¬ St b := (hs.ow r _ _ hh hg b rfl).1
    have hk' : x.cells.toList.length = k := by simp; omega
    rw [hk'] at hrun
    generalize hcur : (cur.toList.take (i * sz + off) ++ x.cells.toList ++ cur.toList.drop (i * sz + off + k)).toArray = cur' at hrun
    have hStw : ∀ k, St k → (w.setRow b cur').heap[k]? = w.heap[k]? := fun k hk => setRow_other w b k _ (fun e => hnb (e ▸ hk))
    refine ⟨_, by simp only [Instr.storeAt, Instr.sureAddr, Sem.run_bind, Sem.run_pure, Result.andThen_ok]; exact hrun, St, g.set r (.slice (some ⟨b, 0, none⟩) n cap), ?_, ?_, by rw [Gh.set_self hg]; exact hkeep.to (fun _ h => h) hStw rfl (fun _ _ => rfl)⟩
    · have hset : ∀ q, cur'.getD q undef = if i * sz + off ≤ q ∧ q < i * sz + off + k then x.cells.getD (q - (i * sz + off)) undef else cur.getD q undef := by
        intro q
        have := splice_get cur.toList (i * sz + off) x.cells.toList (by simp; omega) q
        rw [hk'] at this
        rw [← hcur]
        simpa [List.getD_eq_getElem?_getD, hk'] using this
      have hcs : cur'.size = cur.size := by rw [← hcur]; simp; omega
      have hxs : ∀ q, q < n * sz → xs.getD q undef = cur.getD q undef := by
        intro q hq
        rw [← htake]
        simp [List.getD_eq_getElem?_getD, hq]
      refine hs.change (ro := some b) (fun k hk => ?_) rfl rfl rfl (by simp) (fun k hk hne => setRow_other w b k _ (fun e => hne (by rw [e]))) (.inr hg) (fun k hk => ?_) ?_
      · cases hk; exact ⟨_, _, hh, hg, rfl⟩
      · simp [blockOf] at hk; subst hk; exact .inl rfl
      · have hget : ∀ q, q < n * sz → (cur'.toList.take (n * sz)).getD q undef = cur'.getD q undef := by
          intro q hq; simp [List.getD_eq_getElem?_getD, hq]
        refine ⟨cur'.toList.take (n * sz), ⟨by simp; omega, .inr ⟨b, cap, cur', rfl, Nat.zero_le _, setRow_heap w b cur _ e _ hb, hncap, hcapm, by omega, rfl⟩⟩, fun i' j' hi' hj' => ?_, fun u hu => ?_⟩
        · rw [hget _ (idx_lt hi' hj'), hset]
          unfold updF
          rw [hlen]
          by_cases hii : i' = i
          · subst hii
            by_cases hj2 : off ≤ j' ∧ j' < off + k
            · rw [if_pos ⟨rfl, hj2⟩, if_pos (by omega)]
              have : i' * sz + j' - (i' * sz + off) = j' - off := by omega
              rw [this]
              exact ((hcr (j' - off) (by omega)).closed (V.closedAll_get hcl0) noGh).mono (fun _ h => h) hStw
            · rw [if_neg (fun h => hj2 h.2), if_neg (by omega), ← hxs _ (idx_lt hi' hj')]
              exact (hr i' j' hi' hj').mono (fun _ h => h) hStw
          · rw [if_neg (fun h => hii h.1), if_neg ?_, ← hxs _ (idx_lt hi' hj')]
            · exact (hr i' j' hi' hj').mono (fun _ h => h) hStw
            · rcases Nat.lt_or_gt_of_ne hii with h2 | h2
              · have := Nat.mul_le_mul_right sz (show i' + 1 ≤ i from h2); rw [Nat.add_mul] at this; omega
              · have := Nat.mul_le_mul_right sz (show i + 1 ≤ i' from h2); rw [Nat.add_mul] at this; omega
        · obtain ⟨q, hq, rfl⟩ := List.getElem_of_mem hu
          have hq' : q < n * sz := by simp at hq; omega
          have e1 : (cur'.toList.take (n * sz))[q] = cur'.getD q undef := by
            rw [← hget q hq', List.getD_eq_getElem?_getD, List.getElem?_eq_getElem hq]; rfl
          rw [e1, hset]
          split
          · rename_i h2; exact (hcr _ (by omega)).isOne (all_get h1 (by omega))
          · rw [← hxs q hq']
            refine hone _ ?_
            have hqx : q < xs.length := by omega
            rw [List.getD_eq_getElem?_getD, List.getElem?_eq_getElem hqx]
            exact List.getElem_mem hqx
    · rw [Gh.set_self hg]
      exact ht.change hStw (d := r) (fun k hk => rfl) (.inr rfl)

end Go.Abs
namespace Go.Abs
open Go

theorem run_append_abs {P : Program} {w : World} {t ty e : TypeId} {i : TypeInfo} {z : Value} (ht : P.underlying t = some (.slice e)) (hi : P.info? e = some i) (hz : i.zero = some z)
    (hzs : z.cells.size = i.size) {v : Value} {n : Nat} {xs : List Value} (hown : w.ownsRow 0 e i.size v n xs) {u : Value} {m : Nat} {news : List Value}
    (hsrc : (∃ a c, u = .slice (some a) m c ∧ news.length = m * i.size ∧ ∀ j x, news[j]? = some x → w.cell? (a.add j) = some x) ∨ (u = .slice none 0 0 ∧ m = 0 ∧ news = []))
    (h1 : ∀ x ∈ news, x.oneCell' = true) (h63 : n + m ≤ maxLen) (hbytes : (n + m) * i.bytes ≤ 140737488355328) :
    ∃ v' w', (Builtin.append_ #[t, t] ty #[v, u]).run P w = .ok v' w' ∧ w'.ownsRow 0 e i.size v' (n + m) (xs ++ news) ∧ w'.os = w.os ∧ w'.tape = w.tape ∧ w'.output = w.output ∧ w.heap.size ≤ w'.heap.size ∧
      (∀ k, k < w.heap.size → some k ≠ blockOf v → w'.heap[k]? = w.heap[k]?) ∧ (∀ k, blockOf v' = some k → blockOf v = some k ∨ (w.heap.size ≤ k ∧ k < w'.heap.size)) ∧ v'.oneCell' = true := by
  rcases hsrc with ⟨a, c, rfl, hl, hnews⟩ | ⟨rfl, rfl, rfl⟩
  · have hlen : (xs ++ news).length = (n + m) * i.size := by rw [List.length_append, hown.1, hl, Nat.add_mul]
    have hsmall : n + m ≤ 9223372036854775807 := by simp only [maxLen] at h63; omega
    have grown : ∀ (old : Nat), old < n + m →
        (w.drew.alloc (.cells (xs.toArray ++ news.toArray ++ Builtin.zeroCells z.cells (grownCap w (n + m) old e - (n + m))) e)).ownsRow 0 e i.size
          (.slice (some ⟨w.heap.size, 0, none⟩) (n + m) (grownCap w (n + m) old e)) (n + m) (xs ++ news) := by
      intro old ho
      have hge := grownCap_ge w (n + m) old e
      have hcm : grownCap w (n + m) old e ≤ maxLen := grownCap_le_maxLen w (n + m) old e h63
      refine ⟨hlen, .inr ⟨w.heap.size, _, _, rfl, Nat.zero_le _, heap_alloc_new w.drew _, hge, hcm, ?_, ?_⟩⟩
      · simp only [Array.size_append, List.size_toArray, size_zeroCells, hzs, hown.1, hl, ← Nat.add_mul]
        congr 1
        omega
      · simp only [Array.toList_append, List.append_assoc]
        rw [← List.append_assoc, ← hlen]
        exact List.take_left
    rcases hown.2 with ⟨rfl, rfl⟩ | ⟨g, cap, cur, rfl, hbg, hg, hnc, hcm, hcs, htake⟩
    · have hx : xs = [] := List.eq_nil_of_length_eq_zero (by simpa using hown.1)
      subst hx
      by_cases hm : m = 0
      · subst hm
        have hn : news = [] := List.eq_nil_of_length_eq_zero (by simpa using hl)
        subst hn
        refine ⟨.slice none 0 0, w, ?_, World.ownsRow_nil w 0 e i.size, rfl, rfl, rfl, Nat.le_refl _, fun _ _ _ => rfl, fun k hk => .inl hk, rfl⟩
        simp [Builtin.append_, run_underlying ht, sizeOf, typeInfo, hi, Builtin.lenOf, Builtin.firstCells, loadCells, loadCellsFrom]
      · have hr := run_append_nil (P := P) (ty := ty) w t e i z ht hi hz a m c news hl hnews (by omega) (by omega) (by have hb := hbytes; simp only [Nat.zero_add] at hb; omega)
        have hgr := grown 0 (by omega)
        simp only [Nat.zero_add, List.nil_append, Array.empty_append] at hgr ⊢
        exact ⟨_, _, hr, hgr, rfl, rfl, rfl, by simp, fun k hk _ => heap_alloc_old w.drew _ k hk, fun k hk => .inr (by simp [blockOf] at hk; subst hk; exact ⟨Nat.le_refl _, by simp⟩), rfl⟩
    · by_cases hroom : n + m ≤ cap
      · have hfit : n * i.size + news.length ≤ cur.size := by rw [hl, hcs, ← Nat.add_mul]; exact Nat.mul_le_mul_right _ hroom
        have hr := run_append_room (P := P) (ty := ty) w t e i ht hi g n cap cur hg a m c news hl hnews h1 hroom hfit
        refine ⟨_, _, hr, ⟨hlen, .inr ⟨g, cap, _, rfl, hbg, setRow_heap w g cur _ e _ hg, hroom, hcm, ?_, ?_⟩⟩, rfl, rfl, rfl, by simp, fun k _ hk => setRow_other w g k _ (fun e => hk (by simp [blockOf, e])), fun k hk => .inl hk, rfl⟩
        · simp only [List.size_toArray, List.length_append, List.length_take, List.length_drop, Array.length_toList]
          omega
        · rw [htake, ← hlen]
          exact List.take_left
      · have holds : ∀ j u, xs[j]? = some u → w.cell? ((⟨g, 0, none⟩ : Addr).add j) = some u := hown.cells (g := g) rfl
        have hr := run_append_grow (P := P) (ty := ty) w t e i z ht hi hz ⟨g, 0, none⟩ n cap xs hown.1 holds a m c news hl hnews (by omega) (by omega) (growslice_fits (by omega) hbytes)
        exact ⟨_, _, hr, grown cap (by omega), rfl, rfl, rfl, by simp, fun k hk _ => heap_alloc_old w.drew _ k hk, fun k hk => .inr (by simp [blockOf] at hk; subst hk; exact ⟨Nat.le_refl _, by simp⟩), rfl⟩
  · refine ⟨v, w, ?_, by simpa using hown, rfl, rfl, rfl, Nat.le_refl _, fun _ _ _ => rfl, fun k hk => .inl hk, ?_⟩
    · exact run_append_owned_none (P := P) (w := w) 0 t ty e i i.size ht hi v n xs hown
    · rcases hown.2 with ⟨rfl, _⟩ | ⟨g, cap, cur, rfl, _⟩ <;> rfl

/-! ### Boxes forget what names an own block -/
def Blk.drop (d : Nat) : Blk → Blk
  | .cells t cs => .cells t (cs.map fun v => if v.fresh d then v else .any)
  | .yld o k => .yld (yoCut ((yoIds o).contains d) o) k
  | b => b
def hdrop (d : Nat) (h : Heap) : Heap := h.map fun p => (p.1, p.2.drop d)
theorem get_hdrop (d r : Nat) : ∀ h : Heap, Heap.get (hdrop d h) r = (Heap.get h r).map (Blk.drop d)
  | [] => rfl
  | (a, b) :: h => by
    have ih := get_hdrop d r h
    unfold hdrop at ih ⊢
    simp only [List.map_cons, Heap.get]
    split
    · rfl
    · exact ih
theorem freshAll_map (d : Nat) : ∀ cs : List V, V.freshAll d (cs.map fun v => if v.fresh d then v else .any) = true
  | [] => rfl
  | v :: cs => by
    simp only [List.map_cons, V.freshAll, Bool.and_eq_true]
    refine ⟨?_, freshAll_map d cs⟩
    split
    · assumption
    · rfl
theorem fresh_hdrop (d : Nat) : ∀ h : Heap, Heap.fresh d (hdrop d h) = true
  | [] => rfl
  | (a, b) :: h => by
    have ih := fresh_hdrop d h
    unfold hdrop at ih ⊢
    simp only [List.map_cons, Heap.fresh, Bool.and_eq_true]
    refine ⟨?_, ih⟩
    cases b with
    | cells t cs => exact freshAll_map d cs
    | rows => rfl
    | iter => rfl
    | siter => rfl
    | mapB => rfl
    | yld o k =>
      simp only [Blk.drop, Blk.fresh, yoCut]
      split
      · simp [yoIds]
      · rename_i h; simpa using h
theorem fresh_del (d r : Nat) : ∀ h : Heap, Heap.fresh d h = true → Heap.fresh d (h.del r) = true
  | [], _ => rfl
  | (a, b) :: h, hf => by
    simp only [Heap.fresh, Bool.and_eq_true] at hf
    have ih := fresh_del d r h hf.2
    unfold Heap.del at ih ⊢
    simp only [List.filter_cons]
    split
    · simp only [Heap.fresh, Bool.and_eq_true]; exact ⟨hf.1, ih⟩
    · exact ih

theorem BlkOk.drop {St : Nat → Prop} {w : World} {g : Gh} {v : Value} {b : Blk} (d : Nat) (h : BlkOk St w g v b) : BlkOk St w g v (b.drop d) := by
  cases b with
  | rows => exact h
  | iter => exact h
  | siter => exact h
  | mapB => exact h
  | yld o k => obtain ⟨l, r, hv, hh, hy⟩ := h; exact ⟨l, r, hv, hh, hy.cutb _⟩
  | cells t cs =>
    obtain ⟨b, vals, rfl, hb, hl, hr, h1⟩ := h
    refine ⟨b, vals, rfl, hb, by simpa using hl, fun i hi => ?_, fun i hi => h1 i (by simpa using hi)⟩
    have hi' : i < cs.length := by simpa using hi
    have e : (cs.map fun v => if v.fresh d then v else .any).getD i .any = if (cs.getD i .any).fresh d then cs.getD i .any else .any := by
      simp [List.getD_eq_getElem?_getD, hi']
    rw [e]
    split
    · exact hr i hi'
    · exact .any _ _

/-- A heap that says less. -/
theorem WSim.less {z : Start} {St : Nat → Prop} {g : Gh} {h h' : Heap} {w : World} (hs : WSim z St g h w)
    (hh : ∀ r b', h'.get r = some b' → ∃ b, h.get r = some b ∧ ∀ v, BlkOk St w g v b → BlkOk St w g v b') : WSim z St g h' w := by
  refine ⟨hs.frm, hs.st0, hs.st1, fun r b v h1 h2 => ?_, fun r b h1 => ?_, fun r r' b b' v v' h1 h1' h2 h2' => ?_⟩
  · obtain ⟨b0, h0, _⟩ := hh r b h1; exact hs.ow r b0 v h0 h2
  · obtain ⟨b0, h0, hk⟩ := hh r b h1
    obtain ⟨v, h3, h4⟩ := hs.ok r b0 h0
    exact ⟨v, h3, hk v h4⟩
  · obtain ⟨b0, h0, _⟩ := hh r b h1; obtain ⟨b0', h0', _⟩ := hh r' b' h1'
    exact hs.sep r r' b0 b0' v v' h0 h0' h2 h2'

theorem WSim.hdrop {z : Start} {St : Nat → Prop} {g : Gh} {h : Heap} {w : World} (hs : WSim z St g h w) (d : Nat) : WSim z St g (hdrop d h) w :=
  hs.less fun r b' hb' => by
    rw [get_hdrop, Option.map_eq_some_iff] at hb'
    obtain ⟨b, h1, rfl⟩ := hb'
    exact ⟨b, h1, fun v h => h.drop d⟩

/-- The own row 'r' is bound to the slice 'v''. -/
theorem sim_rows {z : Start} {St : Nat → Prop} {g : Gh} {h : Heap} {w w' : World} (hs : WSim z St g h w) {N : Nat} {t : List (Nat × V)} {a : Act} (ht : TSim St w g N t a)
    {r d : Nat} (hd : d < N) {e : TypeId} {sz n : Nat} {f : Nat → Nat → V} {v' : Value} {xs : List Value} {ro : Option Nat}
    (hro : ∀ k, ro = some k → ∃ b v, h.get r = some b ∧ g r = some v ∧ blockOf v = some k)
    (hos : w'.os = w.os) (htape : w'.tape = w.tape) (hout : w'.output = w.output) (hsize : w.heap.size ≤ w'.heap.size)
    (hw : ∀ k, k < w.heap.size → some k ≠ ro → w'.heap[k]? = w.heap[k]?)
    (hnew : ∀ k, blockOf v' = some k → ro = some k ∨ (w.heap.size ≤ k ∧ k < w'.heap.size)) (h1v : v'.oneCell' = true)
    (hown : w'.ownsRow 0 e sz v' n xs) (hr : ∀ i j, i < n → j < sz → Rel St w noGh (f i j) (xs.getD (i * sz + j) undef)) (h1 : ∀ x ∈ xs, x.oneCell' = true) {b : List Nat} {o : Nat} (hk : KD z St w g b a) (hrb : r ∉ b) :
    Sim z ⟨N, (d, .own r) :: tdrop r t, (r, .rows e sz n f) :: (hdrop r h).del r, b, o⟩ (a.put (some d) v') w' := by
  have hStw : ∀ k, St k → w'.heap[k]? = w.heap[k]? := fun k hk => hw k (hs.st1 k hk).1 (fun e => by
    obtain ⟨b, v, h1, h2, h3⟩ := hro k e.symm
    exact (hs.ow r b v h1 h2 k h3).1 hk)
  refine ⟨St, g.set r v', ?_, ?_, hk.set hrb _ hStw (put_defers ..)⟩
  · refine (hs.hdrop r).change (ro := ro) (fun k hk => ?_) hos htape hout hsize hw (.inl (fresh_del r r _ (fresh_hdrop r h))) hnew ⟨xs, hown, fun i j hi hj => (hr i j hi hj).mono (fun _ h => h) hStw, h1⟩
    obtain ⟨b, v, h2, h3, h4⟩ := hro k hk
    exact ⟨b.drop r, v, by rw [get_hdrop, h2]; rfl, h3, h4⟩
  · exact (ht.drop hStw (fun k hk => Gh.set_ne hk)).put hd (.own _ r _ (by simp [Gh.set]) h1v)

/-! ### What the source of an append holds -/
def srcV (h : Heap) (e : TypeId) (sz : Nat) : V → Option (Nat × (Nat → Nat → V))
  | .nils => some (0, fun _ _ => .any)
  | .arr sz' m f => if sz' = sz then some (m, f) else none
  | .own r => match h.get r with
    | some (.rows e' sz' m f) => if sz' = sz ∧ e' = e then some (m, f) else none
    | _ => none
  | _ => none

theorem run_src {z : Start} {St : Nat → Prop} {g : Gh} {h : Heap} {w : World} (hs : WSim z St g h w) {e : TypeId} {sz : Nat} (hsz : 0 < sz) {v : V} {u : Value} (hv : Rel St w g v u) {m : Nat} {f : Nat → Nat → V}
    (hm : srcV h e sz v = some (m, f)) : ∃ news : List Value, ((∃ a c, u = .slice (some a) m c ∧ news.length = m * sz ∧ ∀ j x, news[j]? = some x → w.cell? (a.add j) = some x) ∨ (u = .slice none 0 0 ∧ m = 0 ∧ news = [])) ∧
      news.length = m * sz ∧ (∀ x ∈ news, x.oneCell' = true) ∧ (∀ i j, i < m → j < sz → Rel St w noGh (f i j) (news.getD (i * sz + j) undef)) := by
  unfold srcV at hm
  split at hm
  · cases hm; have := hv.nils_inv; subst this
    exact ⟨[], .inr ⟨rfl, rfl, rfl⟩, by simp, by simp, fun i j hi => by omega⟩
  · rename_i sz' m' f'
    split at hm
    case isFalse => cases hm
    rename_i hsz'
    cases hm; subst hsz'
    cases hv with
    | arr0 => exact ⟨[], .inr ⟨rfl, rfl, rfl⟩, by simp, by simp, fun i j hi => by omega⟩
    | arr _ _ _ _ b o cap x hcap hmax hS hc h1 hr =>
      have hdm : ∀ q, q < m * sz' → q / sz' < m ∧ q % sz' < sz' ∧ q / sz' * sz' + q % sz' = q := fun q hq =>
        ⟨Nat.div_lt_of_lt_mul (by rw [Nat.mul_comm]; exact hq), Nat.mod_lt _ hsz, by rw [Nat.mul_comm]; exact Nat.div_add_mod q sz'⟩
      refine ⟨(List.range (m * sz')).map fun q => x (q / sz') (q % sz'), .inl ⟨⟨b, o, none⟩, cap, rfl, by simp, fun j v hv => ?_⟩, by simp, fun v hv => ?_, fun i j hi hj => ?_⟩
      · have hj : j < m * sz' := by have := (List.getElem?_eq_some_iff.1 hv).1; simpa using this
        obtain ⟨h2, h3, h4⟩ := hdm j hj
        have := hc _ _ h2 h3
        rw [add_plain]
        rw [Nat.add_assoc, h4] at this
        rw [this]; simpa [hj] using hv
      · simp only [List.mem_map, List.mem_range] at hv
        obtain ⟨q, hq, rfl⟩ := hv
        exact h1 _ _ (hdm q hq).1 (hdm q hq).2.1
      · have hq := idx_lt hi hj
        rw [getD_map _ _ _ _ 0 (by simpa using hq)]
        have e1 : (List.range (m * sz')).getD (i * sz' + j) 0 = i * sz' + j := by simp [List.getD_eq_getElem?_getD, hq]
        have e2 : (i * sz' + j) / sz' = i := by rw [Nat.mul_comm, Nat.mul_add_div hsz, Nat.div_eq_of_lt hj]; rfl
        have e3 : (i * sz' + j) % sz' = j := by rw [Nat.mul_comm, Nat.mul_add_mod, Nat.mod_eq_of_lt hj]
        rw [e1, e2, e3]
        exact hr i j hi hj
  · split at hm
    case h_2 => cases hm
    rename_i r e' sz' m' f' hh
    split at hm
    case isFalse => cases hm
    rename_i hse
    obtain ⟨rfl, rfl⟩ := hse
    cases hm
    obtain ⟨u', hgu, xs, ho, hr, h1⟩ := hs.ok _ _ hh
    rw [hv.own_inv] at hgu; cases hgu
    refine ⟨xs, ?_, ho.1, h1, hr⟩
    rcases ho.2 with ⟨rfl, hn⟩ | ⟨b, cap, cur, rfl, _, hg, hncap, hcapm, hsz, htake⟩
    · subst hn; exact .inr ⟨rfl, rfl, List.eq_nil_of_length_eq_zero (by simpa using ho.1)⟩
    · exact .inl ⟨_, cap, rfl, ho.1, ho.cells (g := b) rfl⟩
  · cases hm

/-- One row after another. -/
def appF (n : Nat) (f f2 : Nat → Nat → V) : Nat → Nat → V := fun i j => if i < n then f i j else f2 (i - n) j
/-- A row out of a list of cells. -/
def lstF (sz : Nat) (cs : List V) : Nat → Nat → V := fun i j => cs.getD (i * sz + j) .any

theorem app_get {St : Nat → Prop} {w : World} {sz n m : Nat} {f f2 : Nat → Nat → V} {xs news : List Value} (hl : xs.length = n * sz)
    (hr : ∀ i j, i < n → j < sz → Rel St w noGh (f i j) (xs.getD (i * sz + j) undef)) (hr2 : ∀ i j, i < m → j < sz → Rel St w noGh (f2 i j) (news.getD (i * sz + j) undef)) :
    ∀ i j, i < n + m → j < sz → Rel St w noGh (appF n f f2 i j) ((xs ++ news).getD (i * sz + j) undef) := by
  intro i j hi hj
  unfold appF
  split
  · rename_i h
    have := idx_lt h hj
    rw [List.getD_eq_getElem?_getD, List.getElem?_append_left (by omega), ← List.getD_eq_getElem?_getD]
    exact hr i j h hj
  · rename_i h
    have e : i * sz + j - xs.length = (i - n) * sz + j := by
      rw [hl, Nat.sub_mul]
      have := Nat.mul_le_mul_right sz (show n ≤ i by omega)
      omega
    have hge : xs.length ≤ i * sz + j := by rw [hl]; have := Nat.mul_le_mul_right sz (show n ≤ i by omega); omega
    rw [List.getD_eq_getElem?_getD, List.getElem?_append_right hge, e, ← List.getD_eq_getElem?_getD]
    exact hr2 _ j (by omega) hj

end Go.Abs
namespace Go.Abs
open Go

def newBox (s : S) (d : Nat) (e : TypeId) (v : V) : Option (S × Prop) :=
  if d < s.N ∧ v.isVal = true ∧ v.cells.all V.isOne = true ∧ V.freshAll (d + s.o) v.cells = true ∧ tfresh (d + s.o) s.t = true ∧ Heap.fresh (d + s.o) (s.h.del (d + s.o)) = true ∧ s.b.contains (d + s.o) = false then
    some (⟨s.N, (d, .ptr (d + s.o) 0) :: s.t, (d + s.o, .cells e v.cells) :: s.h.del (d + s.o), s.b, s.o⟩, True) else none

def zeroCellsV (z : List V) (k n : Nat) : List V := (List.range n).map fun q => z.getD (q % k) .any
def repF (z : List V) : Nat → Nat → V := fun _ j => z.getD j .any

def rowOf (h : Heap) (d : Nat) : V → Option (Nat × Nat × Nat × (Nat → Nat → V) × Option TypeId)
  | .nils => some (d, 0, 0, fun _ _ => .any, none)
  | .own r => match h.get r with
    | some (.rows e sz n f) => some (r, sz, n, f, some e)
    | _ => none
  | _ => none

def appendV (P : Program) (s : S) (d : Nat) (t : TypeId) (x y : V) : Option (S × Prop) :=
  match P.underlying t with
  | some (.slice e) => match P.info? e with
    | some i => match i.zero with
      | some z => match rowOf s.h (d + s.o) x, srcV s.h e i.size y with
        | some (r, sz, n, f, e'), some (m, f2) =>
          if d < s.N ∧ 0 < i.size ∧ 0 < i.bytes ∧ z.cells.size = i.size ∧ ((e' = none ∧ n = 0) ∨ (e' = some e ∧ sz = i.size)) ∧ s.b.contains r = false then
            some (⟨s.N, (d, .own r) :: tdrop r s.t, (r, .rows e i.size (n + m) (if e' = none then f2 else appF n f f2)) :: (hdrop r s.h).del r, s.b, s.o⟩, (n + m) * i.bytes ≤ 140737488355328) else none
        | _, _ => none
      | none => none
    | none => none
  | _ => none

def buildSliceV (P : Program) (s : S) (d : Nat) (t : TypeId) (len : Nat) (parts : List (Nat × V)) : Option (S × Prop) :=
  match P.underlying t with
  | some (.slice e) => match szOf P e, zeroV P e with
    | some k, some z => match fillV (fun i => some (i * k, k)) (zeroCellsV z.cells k (len * k)) parts with
      | some cs =>
        if d < s.N ∧ 0 < k ∧ z.isVal = true ∧ z.cells.length = k ∧ len * k ≤ 16777216 ∧ parts.all (fun p => p.2.isVal) = true ∧ cs.all V.isOne = true ∧ V.closedAll cs = true ∧ s.b.contains (d + s.o) = false then
          some (⟨s.N, (d, .own (d + s.o)) :: tdrop (d + s.o) s.t, (d + s.o, .rows e k len (lstF k cs)) :: (hdrop (d + s.o) s.h).del (d + s.o), s.b, s.o⟩, True) else none
      | none => none
    | _, _ => none
  | _ => none

def makeSliceV (P : Program) (s : S) (d : Nat) (t : TypeId) (l c : V) : Option (S × Prop) :=
  match P.underlying t, l, c with
  | some (.slice e), .int _ n, .int _ m => match P.info? e with
    | some i => match i.zero with
      | some zv =>
        let z := (vcon zv).cells
        if d < s.N ∧ 0 < i.size ∧ (vcon zv).isVal = true ∧ z.length = i.size ∧ z.all V.isOne = true ∧ V.closedAll z = true ∧ s.b.contains (d + s.o) = false then
          some (⟨s.N, (d, .own (d + s.o)) :: tdrop (d + s.o) s.t, (d + s.o, .rows e i.size n.toNat (repF z)) :: (hdrop (d + s.o) s.h).del (d + s.o), s.b, s.o⟩, 0 ≤ n ∧ n ≤ m ∧ (i.bytes : Int) * m ≤ 281474976710656 ∧ m ≤ 9223372036854775807) else none
      | none => none
    | none => none
  | _, _, _ => none

/-- Zero values appended to a nil slice. -/
def appendZV (P : Program) (s : S) (d : Nat) (t t' : TypeId) (x y : V) : Option (S × Prop) :=
  match P.underlying t, P.underlying t', x, y with
  | some (.slice e), some (.int _), .nils, .int _ n => match P.info? e with
    | some i => match i.zero with
      | some zv =>
        let z := (vcon zv).cells
        if d < s.N ∧ 0 < i.size ∧ (vcon zv).isVal = true ∧ z.length = i.size ∧ z.all V.isOne = true ∧ V.closedAll z = true ∧ s.b.contains (d + s.o) = false then
          some (⟨s.N, (d, .own (d + s.o)) :: tdrop (d + s.o) s.t, (d + s.o, .rows e i.size n.toNat (repF z)) :: (hdrop (d + s.o) s.h).del (d + s.o), s.b, s.o⟩, 0 < n ∧ n * (i.bytes : Int) ≤ 140737488355328 ∧ n ≤ 4611686018427387904) else none
      | none => none
    | none => none
  | _, _, _, _ => none

/-- Elements 'i' to 'i + m' of a row are the zero value. -/
def clrF (f : Nat → Nat → V) (i m : Nat) (zs : List V) : Nat → Nat → V := fun a c => if i ≤ a ∧ a < i + m then zs.getD c .any else f a c
def clearV (P : Program) (s : S) (t : TypeId) (x : V) : Option (S × Prop) :=
  match P.underlying t, x with
  | some (.slice e), .osl r sz i m => match s.h.get r, zeroV P e with
    | some (.rows e' sz' n f), some z =>
      if sz' = sz ∧ 0 < sz ∧ z.isVal = true ∧ z.cells.length = sz ∧ z.cells.all V.isOne = true ∧ V.closedAll z.cells = true then
        some (⟨s.N, s.t, (r, .rows e' sz n (clrF f i m z.cells)) :: s.h.del r, s.b, s.o⟩, i + m ≤ n ∧ 0 < m) else none
    | _, _ => none
  | _, _ => none

def hop (P : Program) (s : S) (dst : Option Nat) : Op → Option (S × Prop)
  | .alloc e => match dst, zeroV P e with
    | some d, some z => newBox s d e z
    | _, _ => none
  | .box e x => match dst with
    | some d => newBox s d e (ev s.t x)
    | none => none
  | .store ty p x => match dst, ev s.t p, szOf P ty with
    | none, .ptr r off, some k => match s.h.get r with
      | some (.cells e cs) =>
        if (ev s.t x).isVal = true ∧ (ev s.t x).cells.length = k ∧ (ev s.t x).cells.all V.isOne = true ∧ off + k ≤ cs.length then
          some (⟨s.N, s.t, (r, .cells e (setCells cs off (ev s.t x).cells)) :: s.h.del r, s.b, s.o⟩, True) else none
      | _ => none
    | none, .oelem r sz i off, some k => match s.h.get r with
      | some (.rows e sz' n f) =>
        if sz' = sz ∧ (ev s.t x).isVal = true ∧ (ev s.t x).cells.length = k ∧ (ev s.t x).cells.all V.isOne = true ∧ V.closedAll (ev s.t x).cells = true ∧ off + k ≤ sz then
          some (⟨s.N, s.t, (r, .rows e sz n (updF f i off (ev s.t x).cells)) :: s.h.del r, s.b, s.o⟩, i < n) else none
      | _ => none
    | _, _, _ => none
  | .buildSlice t len parts => match dst with
    | some d => buildSliceV P s d t len (parts.toList.map fun p => (p.1, ev s.t p.2))
    | none => none
  | .makeSlice t l c => match dst with
    | some d => makeSliceV P s d t (ev s.t l) (ev s.t c)
    | none => none
  | .call cl => match cl.callee, cl.args.toList, cl.argTypes.toList, dst with
    | .builtin .append, [x, y], [t, t'], some d => if t = t' then appendV P s d t (ev s.t x) (ev s.t y) else appendZV P s d t t' (ev s.t x) (ev s.t y)
    | .builtin .clear, [x], [t], none => clearV P s t (ev s.t x)
    | _, _, _, _ => none
  | _ => none

section
variable {P : Program} {z : Start} {St : Nat → Prop} {g : Gh} {h : Heap} {w : World} {N : Nat} {t : List (Nat × V)} {a : Act} {b : List Nat} {o : Nat}

theorem notmem {b : List Nat} {d : Nat} (h : b.contains d = false) : d ∉ b := by simpa using h

theorem run_newBox (hs : WSim z St g h w) (ht : TSim St w g N t a) (hk : KD z St w g b a) {d : Nat} {e : TypeId} {v : V} {x : Value} (hv : Rel St w g v x) {s' : S} {φ : Prop} (hn : newBox ⟨N, t, h, b, o⟩ d e v = some (s', φ)) :
    Sim z s' (a.put (some d) (.pointer (some ⟨w.heap.size, 0, none⟩))) (w.alloc (.cells x.cells e)) := by
  unfold newBox at hn
  split at hn
  case isFalse => cases hn
  rename_i hc
  cases hn
  exact sim_box hs ht hv hc.2.1 hc.2.2.1 hc.2.2.2.1 hc.2.2.2.2.1 hc.2.2.2.2.2.1 hc.1 hk (notmem hc.2.2.2.2.2.2)

theorem run_appendV (hs : WSim z St g h w) (ht : TSim St w g N t a) (hk : KD z St w g b a) {d : Nat} {ty rt : TypeId} {x y : V} {u v : Value} (hx : Rel St w g x u) (hy : Rel St w g y v) {s' : S} {φ : Prop}
    (hn : appendV P ⟨N, t, h, b, o⟩ d ty x y = some (s', φ)) (hφ : φ) :
    ∃ v' w', (Builtin.append_ #[ty, ty] rt #[u, v]).run P w = .ok v' w' ∧ Sim z s' (a.put (some d) v') w' := by
  unfold appendV at hn
  split at hn
  case h_2 => cases hn
  rename_i e hu
  split at hn
  case h_2 => cases hn
  rename_i i hi
  split at hn
  case h_2 => cases hn
  rename_i zv hz
  split at hn
  case h_2 => cases hn
  rename_i r sz n f e' m f2 hrow hsrc
  split at hn
  case isFalse => cases hn
  rename_i hc
  obtain ⟨hdN, hsz, hby, hzs, hee, hrb⟩ := hc
  cases hn
  dsimp only at hdN hrb hsrc hrow ⊢
  obtain ⟨news, hsrc', hnl, hn1, hnr⟩ := run_src hs hsz hy hsrc
  have hbase : ∃ xs, w.ownsRow 0 e i.size u n xs ∧ (∀ a b, a < n → b < i.size → Rel St w noGh (f a b) (xs.getD (a * i.size + b) undef)) ∧ (∀ x ∈ xs, x.oneCell' = true) ∧
      (∀ k, blockOf u = some k → ∃ b v, h.get r = some b ∧ g r = some v ∧ blockOf v = some k) := by
    unfold rowOf at hrow
    split at hrow
    · cases hrow; have := hx.nils_inv; subst this
      exact ⟨[], World.ownsRow_nil w 0 e i.size, fun a b ha => by omega, by simp, fun k hk => by simp [blockOf] at hk⟩
    · split at hrow
      case h_2 => cases hrow
      rename_i r' e2 sz2 n2 f2' hh
      cases hrow
      rcases hee with ⟨he, _⟩ | ⟨he, rfl⟩
      · cases he
      · cases he
        obtain ⟨u', hgu, xs, ho, hr, h1⟩ := hs.ok _ _ hh
        have hxr := hx.own_inv
        rw [hxr] at hgu; cases hgu
        exact ⟨xs, ho, hr, h1, fun k hk => ⟨_, _, hh, hxr, hk⟩⟩
    · cases hrow
  obtain ⟨xs, hown, hxr, hx1, hblk⟩ := hbase
  have h63 : n + m ≤ maxLen := by
    have : (n + m) * 1 ≤ (n + m) * i.bytes := Nat.mul_le_mul_left _ hby
    simp only [maxLen]; omega
  obtain ⟨v', w', hrun, hown', hos, htape, hout, hsize, hw, hnew, h1v⟩ := run_append_abs (ty := rt) hu hi hz hzs hown hsrc' hn1 h63 hφ
  refine ⟨v', w', hrun, ?_⟩
  have hF : (if e' = none then f2 else appF n f f2) = appF n f f2 ∨ n = 0 := by
    rcases hee with ⟨_, h0⟩ | ⟨he, _⟩
    · exact .inr h0
    · left; rw [he]; rfl
  refine sim_rows hs ht hdN (ro := blockOf u) (v' := v') hblk hos htape hout hsize hw hnew h1v hown' ?_ (fun x hx => ?_) hk (notmem hrb)
  · have := app_get (f := f) (f2 := f2) hown.1 hxr hnr
    rcases hF with hF | h0
    · rw [hF]; exact this
    · subst h0
      intro a b ha hb
      have h2 := this a b ha hb
      split
      · simpa [appF] using h2
      · exact h2
  · rcases List.mem_append.1 hx with h | h
    · exact hx1 x h
    · exact hn1 x h

theorem range0 : Array.range 0 = #[] := rfl
theorem run_buildSliceV (hs : WSim z St g h w) (ht : TSim St w g N t a) (hkeep : KD z St w g b a) {d : Nat} {ty : TypeId} {len : Nat} {parts : List (Nat × V)} {us : Array (Nat × Value)} (hl : us.size = parts.length)
    (hp : ∀ i, i < parts.length → (us.getD i (0, undef)).1 = (parts.getD i (0, .any)).1 ∧ Rel St w g (parts.getD i (0, .any)).2 (us.getD i (0, undef)).2) {s' : S} {φ : Prop}
    (hn : buildSliceV P ⟨N, t, h, b, o⟩ d ty len parts = some (s', φ)) :
    ∃ v' w', (Instr.buildSlice ty len us).run P w = .ok v' w' ∧ Sim z s' (a.put (some d) v') w' := by
  unfold buildSliceV at hn
  split at hn
  case h_2 => cases hn
  rename_i e hu
  split at hn
  case h_2 => cases hn
  rename_i k zz hk hz
  split at hn
  case h_2 => cases hn
  rename_i cs hf
  split at hn
  case isFalse => cases hn
  rename_i hc
  obtain ⟨hdN, hk0, hzv, hzl, hmax, hval, hone, hcl, hrb⟩ := hc
  cases hn
  dsimp only at hdN hrb ⊢
  obtain ⟨zv, hzr, hze, hzrel⟩ := run_zeroV (P := P) (St := St) (w := w) (g := g) hz
  obtain ⟨hzs, hzc⟩ := hzrel.cells hzv
  have hval' : ∀ i, i < parts.length → (parts.getD i (0, .any)).2.isVal = true := by
    intro i hi
    have := List.all_eq_true.1 hval (parts[i]) (by simp)
    simpa [List.getD_eq_getElem?_getD, hi] using this
  by_cases h0 : len * k = 0
  · have hlen : len = 0 := by
      rcases Nat.mul_eq_zero.1 h0 with h | h
      · exact h
      · omega
    subst hlen
    obtain ⟨vs', h1, h2, h3, h4⟩ := run_fill (St := St) (w := w) (g := g) (vs := (#[] : Array Value)) (us := us.toList) hf (by simpa using hl) (fun i hi => ⟨by simpa [List.getD_eq_getElem?_getD] using (hp i hi).1, by simpa [List.getD_eq_getElem?_getD] using (hp i hi).2, hval' i hi⟩) (by simp [zeroCellsV]) (fun i hi => by simp [zeroCellsV] at hi)
    have hcs : cs.length = 0 := by rw [h3]; simp [zeroCellsV]
    refine ⟨.slice (some ⟨w.heap.size, 0, none⟩) 0 0, w.alloc (.cells vs' e), ?_, ?_⟩
    · simp only [Instr.buildSlice, Sem.run_bind, run_underlying hu, Result.andThen_ok, run_szOf hk, Nat.zero_mul, Sem.run_ite, Sem.run_pure]
      simp [h1, newRow, range0]
    · refine sim_rows (w' := w.alloc (.cells vs' e)) (v' := .slice (some ⟨w.heap.size, 0, none⟩) 0 0) (r := d + o) (e := e) (sz := k) (f := lstF k cs) (n := 0) hs ht hdN (ro := none) (xs := []) (fun k hk => by cases hk) rfl rfl rfl (by simp) (fun k hk _ => heap_alloc_old w _ k hk) (fun k hk => .inr (by simp [blockOf] at hk; subst hk; exact ⟨Nat.le_refl _, by simp⟩)) rfl ?_ (fun i j hi => by omega) (by simp) hkeep (notmem hrb)
      exact ⟨by simp, .inr ⟨w.heap.size, 0, vs', rfl, Nat.zero_le _, heap_alloc_new w _, Nat.le_refl _, Nat.zero_le _, by rw [h2, hcs]; simp, by simp⟩⟩
  · have hzrow : ∀ i, i < (zeroCellsV zz.cells k (len * k)).length → Rel St w g ((zeroCellsV zz.cells k (len * k)).getD i .any) (((Array.range (len * k)).map (zv.cells[· % zv.cells.size]!)).getD i undef) := by
      intro i hi
      have hi' : i < len * k := by simpa [zeroCellsV] using hi
      have e1 : (zeroCellsV zz.cells k (len * k)).getD i .any = zz.cells.getD (i % k) .any := by
        unfold zeroCellsV; rw [getD_map _ _ _ _ 0 (by simpa using hi')]; simp [List.getD_eq_getElem?_getD, hi']
      have hlt : i % k < k := Nat.mod_lt _ hk0
      have e2 : ((Array.range (len * k)).map (zv.cells[· % zv.cells.size]!)).getD i undef = zv.cells.getD (i % k) undef := by
        have h1 : i % k < zv.cells.size := by omega
        have h2 : zv.cells.size = k := by omega
        simp [hi', h2, Array.getElem!_eq_getD, Array.getElem?_eq_getElem h1]
      rw [e1, e2]; exact hzc _ (by omega)
    obtain ⟨vs', h1, h2, h3, h4⟩ := run_fill (us := us.toList) hf (by simpa using hl) (fun i hi => ⟨by simpa [List.getD_eq_getElem?_getD] using (hp i hi).1, by simpa [List.getD_eq_getElem?_getD] using (hp i hi).2, hval' i hi⟩) (by simp [zeroCellsV]) hzrow
    have hcs : cs.length = len * k := by rw [h3]; simp [zeroCellsV]
    refine ⟨.slice (some ⟨w.heap.size, 0, none⟩) len len, w.alloc (.cells vs' e), ?_, ?_⟩
    · simp only [Instr.buildSlice, Sem.run_bind, run_underlying hu, Result.andThen_ok, run_szOf hk, Sem.run_ite, Sem.run_pure]
      rw [if_neg (by omega)]
      try simp only [Result.andThen_ok]
      rw [if_neg h0, hzr]
      simp only [Result.andThen_ok]
      rw [h1]
      simp [newRow]
    · have hlm : len ≤ maxLen := by
        have : len * 1 ≤ len * k := Nat.mul_le_mul_left _ hk0
        simp only [maxLen]; omega
      refine sim_rows (w' := w.alloc (.cells vs' e)) (v' := .slice (some ⟨w.heap.size, 0, none⟩) len len) (r := d + o) (e := e) (sz := k) (f := lstF k cs) (n := len) hs ht hdN (ro := none) (xs := vs'.toList) (fun k hk => by cases hk) rfl rfl rfl (by simp) (fun k hk _ => heap_alloc_old w _ k hk) (fun k hk => .inr (by simp [blockOf] at hk; subst hk; exact ⟨Nat.le_refl _, by simp⟩)) rfl ?_ (fun i j hi hj => ?_) (fun x hx => ?_) hkeep (notmem hrb)
      · exact ⟨by simp; omega, .inr ⟨w.heap.size, len, vs', rfl, Nat.zero_le _, heap_alloc_new w _, Nat.le_refl _, hlm, by omega, by rw [List.take_of_length_le (by simp; omega)]⟩⟩
      · have hq := idx_lt hi hj
        have := (h4 (i * k + j) (by omega)).closed (V.closedAll_get hcl) noGh
        simpa [lstF, List.getD_eq_getElem?_getD] using this
      · obtain ⟨q, hq, rfl⟩ := List.getElem_of_mem hx
        have hq' : q < cs.length := by simp at hq; omega
        have := (h4 q hq').isOne (all_get hone hq')
        have hq2 : q < vs'.size := by omega
        simpa [hq2] using this

theorem zeroCells_get (zv : Array Value) (m q : Nat) (hq : q < m * zv.size) (h0 : 0 < zv.size) : (Builtin.zeroCells zv m).toList.getD q undef = zv.getD (q % zv.size) undef := by
  have h4 : q % zv.size < zv.size := Nat.mod_lt _ h0
  simp [Builtin.zeroCells, List.getD_eq_getElem?_getD, hq, Array.getElem!_eq_getD, Array.getElem?_eq_getElem h4]
theorem run_clearV (hs : WSim z St g h w) (ht : TSim St w g N t a) (hkeep : KD z St w g b a) {ty rt : TypeId} {x : V} {p : Value} (hp : Rel St w g x p) {s' : S} {φ : Prop}
    (hn : clearV P ⟨N, t, h, b, o⟩ ty x = some (s', φ)) (hφ : φ) :
    ∃ w', (Builtin.clear_ #[ty] rt #[p]).run P w = .ok (.tuple #[]) w' ∧ Sim z s' a w' := by
  unfold clearV at hn
  split at hn
  case h_2 => cases hn
  rename_i e r sz i m hu
  dsimp only at hn
  split at hn
  case h_2 => cases hn
  rename_i e' sz' n f zz hh hz
  split at hn
  case isFalse => cases hn
  rename_i hc
  obtain ⟨rfl, hsz0, hval, hlen, h1, hcl0⟩ := hc
  cases hn
  obtain ⟨hin, hm0⟩ := hφ
  obtain ⟨zv, hzr, hze, hzrel⟩ := run_zeroV (P := P) (St := St) (w := w) (g := g) hz
  obtain ⟨hcl, hcr⟩ := hzrel.cells hval
  obtain ⟨u, hgu, xs, ho, hr, hone⟩ := hs.ok r _ hh
  cases hp with
  | osl _ _ _ _ _ bo n' cap hgg =>
    obtain ⟨hg, hle, hb0⟩ := hgg
    rw [hg] at hgu; cases hgu
    cases bo with
    | none => have := hb0 rfl; omega
    | some b0 =>
    rcases ho.2 with ⟨hu', hn⟩ | ⟨gg, cap', cur, hu', _, hb, hncap, hcapm, hsz, htake⟩
    · cases hu'
    simp only [Option.map] at hu' hg
    cases hu'
    have hlenxs := ho.1
    have hne : ¬ cap = i := by omega
    have hfit : n * sz' ≤ cur.size := by rw [hsz]; exact Nat.mul_le_mul_right _ hncap
    have hims : i * sz' + m * sz' ≤ n * sz' := by have := Nat.mul_le_mul_right sz' hin; rw [Nat.add_mul] at this; exact this
    have hzs : zv.cells.size = sz' := by omega
    have hzl : (Builtin.zeroCells zv.cells m).toList.length = m * sz' := by simp [Builtin.zeroCells, hzs]
    have hzg : ∀ q, q < m * sz' → (Builtin.zeroCells zv.cells m).toList.getD q undef = zv.cells.getD (q % sz') undef := fun q hq => by
      have := zeroCells_get zv.cells m q (by rw [hzs]; exact hq) (by omega)
      rw [hzs] at this; exact this
    have hrun := run_storeCells_at P b0 (i * sz') e' (Builtin.zeroCells zv.cells m).toList 0 cur w hb (by rw [hzl]; omega) (fun v hv => by
      obtain ⟨q, hq, rfl⟩ := List.getElem_of_mem hv
      rw [hzl] at hq
      have e1 : (Builtin.zeroCells zv.cells m).toList[q]'(by rw [hzl]; exact hq) = zv.cells.getD (q % sz') undef := by
        rw [← hzg q hq, List.getD_eq_getElem?_getD, List.getElem?_eq_getElem (by rw [hzl]; exact hq)]; rfl
      rw [e1]
      have h4 : q % sz' < sz' := Nat.mod_lt _ hsz0
      exact (hcr _ (by omega)).isOne (all_get h1 (by omega)))
    simp only [Nat.add_zero] at hrun
    rw [hzl] at hrun
    have hnb : ¬ St b0 := (hs.ow r _ _ hh hg b0 rfl).1
    generalize hcur : (cur.toList.take (i * sz') ++ (Builtin.zeroCells zv.cells m).toList ++ cur.toList.drop (i * sz' + m * sz')).toArray = cur' at hrun
    have hStw : ∀ k, St k → (w.setRow b0 cur').heap[k]? = w.heap[k]? := fun k hk => setRow_other w b0 k _ (fun e => hnb (e ▸ hk))
    refine ⟨w.setRow b0 cur', ?_, St, g.set r (.slice (some ⟨b0, 0, none⟩) n cap), ?_, ?_, by rw [Gh.set_self hg]; exact hkeep.to (fun _ h => h) hStw rfl (fun _ _ => rfl)⟩
    · simp only [Option.map, if_neg hne]
      obtain ⟨m', rfl⟩ : ∃ m', m = m' + 1 := ⟨m - 1, by omega⟩
      simp [Builtin.clear_, run_underlying hu, hzr, hrun]
    · have hset : ∀ q, cur'.getD q undef = if i * sz' ≤ q ∧ q < i * sz' + m * sz' then zv.cells.getD ((q - i * sz') % sz') undef else cur.getD q undef := by
        intro q
        have := splice_get cur.toList (i * sz') (Builtin.zeroCells zv.cells m).toList (by rw [hzl]; simp; omega) q
        rw [hzl] at this
        rw [← hcur]
        by_cases hq : i * sz' ≤ q ∧ q < i * sz' + m * sz'
        · rw [if_pos hq] at this ⊢
          rw [← hzg _ (by omega)]
          simpa [List.getD_eq_getElem?_getD] using this
        · rw [if_neg hq] at this ⊢
          simpa [List.getD_eq_getElem?_getD] using this
      have hcs : cur'.size = cur.size := by rw [← hcur]; simp [Builtin.zeroCells, hzs]; omega
      have hxs : ∀ q, q < n * sz' → xs.getD q undef = cur.getD q undef := by
        intro q hq
        rw [← htake]
        simp [List.getD_eq_getElem?_getD, hq]
      refine hs.change (ro := some b0) (fun k hk => ?_) rfl rfl rfl (by simp) (fun k hk hne => setRow_other w b0 k _ (fun e => hne (by rw [e]))) (.inr hg) (fun k hk => ?_) ?_
      · cases hk; exact ⟨_, _, hh, hg, rfl⟩
      · simp [blockOf] at hk; subst hk; exact .inl rfl
      · have hget : ∀ q, q < n * sz' → (cur'.toList.take (n * sz')).getD q undef = cur'.getD q undef := by
          intro q hq; simp [List.getD_eq_getElem?_getD, hq]
        refine ⟨cur'.toList.take (n * sz'), ⟨by simp; omega, .inr ⟨b0, cap, cur', rfl, Nat.zero_le _, setRow_heap w b0 cur _ e' _ hb, hncap, hcapm, by omega, rfl⟩⟩, fun i' j' hi' hj' => ?_, fun u hu => ?_⟩
        · rw [hget _ (idx_lt hi' hj'), hset]
          unfold clrF
          by_cases hii : i ≤ i' ∧ i' < i + m
          · have h5 : i * sz' ≤ i' * sz' := Nat.mul_le_mul_right _ hii.1
            have h6 : (i' + 1) * sz' ≤ (i + m) * sz' := Nat.mul_le_mul_right _ hii.2
            rw [Nat.add_mul, Nat.add_mul] at h6
            rw [if_pos hii, if_pos (by omega)]
            have e3 : (i' * sz' + j' - i * sz') % sz' = j' := by
              obtain ⟨d, rfl⟩ : ∃ d, i' = i + d := ⟨i' - i, by omega⟩
              have : (i + d) * sz' + j' - i * sz' = sz' * d + j' := by rw [Nat.add_mul, Nat.mul_comm d]; omega
              rw [this, Nat.mul_add_mod, Nat.mod_eq_of_lt hj']
            rw [e3]
            exact ((hcr j' (by omega)).closed (V.closedAll_get hcl0) noGh).mono (fun _ h => h) hStw
          · rw [if_neg hii, if_neg ?_, ← hxs _ (idx_lt hi' hj')]
            · exact (hr i' j' hi' hj').mono (fun _ h => h) hStw
            · intro h7
              refine hii ⟨?_, ?_⟩
              · rcases Nat.lt_or_ge i' i with h2 | h2
                · have := Nat.mul_le_mul_right sz' (show i' + 1 ≤ i from h2); rw [Nat.add_mul] at this; omega
                · exact h2
              · rcases Nat.lt_or_ge i' (i + m) with h2 | h2
                · exact h2
                · have := Nat.mul_le_mul_right sz' h2; rw [Nat.add_mul] at this; omega
        · obtain ⟨q, hq, rfl⟩ := List.getElem_of_mem hu
          have hq' : q < n * sz' := by simp at hq; omega
          have e1 : (cur'.toList.take (n * sz'))[q] = cur'.getD q undef := by
            rw [← hget q hq', List.getD_eq_getElem?_getD, List.getElem?_eq_getElem hq]; rfl
          rw [e1, hset]
          split
          · have h4 : (q - i * sz') % sz' < sz' := Nat.mod_lt _ hsz0
            exact (hcr _ (by omega)).isOne (all_get h1 (by omega))
          · rw [← hxs q hq']
            refine hone _ ?_
            have hqx : q < xs.length := by omega
            rw [List.getD_eq_getElem?_getD, List.getElem?_eq_getElem hqx]
            exact List.getElem_mem hqx
    · rw [Gh.set_self hg]
      exact ht.change hStw (d := r) (fun k hk => rfl) (.inr rfl)

theorem run_makeSliceV (hs : WSim z St g h w) (ht : TSim St w g N t a) (hkeep : KD z St w g b a) {d : Nat} {ty : TypeId} {l c : V} {u v : Value} (hl : Rel St w g l u) (hc : Rel St w g c v) {s' : S} {φ : Prop}
    (hn : makeSliceV P ⟨N, t, h, b, o⟩ d ty l c = some (s', φ)) (hφ : φ) :
    ∃ v' w', (Instr.makeSlice ty u v).run P w = .ok v' w' ∧ Sim z s' (a.put (some d) v') w' := by
  unfold makeSliceV at hn
  split at hn
  case h_2 => cases hn
  rename_i e kl n kc m hu
  split at hn
  case h_2 => cases hn
  rename_i i hi
  split at hn
  case h_2 => cases hn
  rename_i zv hz
  dsimp only at hn
  split at hn
  case isFalse => cases hn
  rename_i hcnd
  obtain ⟨hdN, hk0, hzv, hzl, hone, hcl, hrb⟩ := hcnd
  cases hn
  obtain ⟨h0, h1, h2, h3⟩ := hφ
  have := hl.int_inv; subst this; have := hc.int_inv; subst this
  obtain ⟨hzs, hzc⟩ := (rel_vcon (St := St) (w := w) (g := g) zv).cells hzv
  have hzs' : zv.cells.size = i.size := by omega
  refine ⟨_, _, run_make (P := P) w ty e i zv hu hi hz kl kc n m h0 h1 h2 h3, ?_⟩
  have hnm : n.toNat ≤ m.toNat := by omega
  have hmk : ∀ q, q < m.toNat * i.size → (madeCells zv.cells (m.toNat * i.size)).getD q undef = zv.cells.getD (q % i.size) undef := by
    intro q hq
    have h4 : q % i.size < zv.cells.size := by rw [hzs']; exact Nat.mod_lt _ hk0
    simp [madeCells, hq, hzs', Array.getElem!_eq_getD, Array.getElem?_eq_getElem h4]
  have hle : n.toNat * i.size ≤ m.toNat * i.size := Nat.mul_le_mul_right _ hnm
  have hget : ∀ q, q < n.toNat * i.size → ((madeCells zv.cells (m.toNat * i.size)).toList.take (n.toNat * i.size)).getD q undef = zv.cells.getD (q % i.size) undef := by
    intro q hq
    rw [← hmk q (by omega)]
    simp [List.getD_eq_getElem?_getD, hq]
  refine sim_rows (w' := w.alloc (.cells (madeCells zv.cells (m.toNat * i.size)) e)) (v' := .slice (some ⟨w.heap.size, 0, none⟩) n.toNat m.toNat) (r := d + o) (e := e) (sz := i.size) (f := repF (vcon zv).cells) (n := n.toNat) hs ht hdN (ro := none) (xs := (madeCells zv.cells (m.toNat * i.size)).toList.take (n.toNat * i.size)) (fun k hk => by cases hk) rfl rfl rfl (by simp) (fun k hk _ => heap_alloc_old w _ k hk) (fun k hk => .inr (by simp [blockOf] at hk; subst hk; exact ⟨Nat.le_refl _, by simp⟩)) rfl ?_ (fun i' j hi' hj => ?_) (fun x hx => ?_) hkeep (notmem hrb)
  · refine ⟨by rw [List.length_take, Array.length_toList, size_madeCells]; omega, .inr ⟨w.heap.size, m.toNat, _, rfl, Nat.zero_le _, heap_alloc_new w _, hnm, by simp only [maxLen]; omega, size_madeCells _ _, rfl⟩⟩
  · have hq := idx_lt hi' hj
    rw [hget _ hq]
    have e3 : (i' * i.size + j) % i.size = j := by rw [Nat.mul_comm, Nat.mul_add_mod, Nat.mod_eq_of_lt hj]
    rw [e3]
    exact (hzc j (by omega)).closed (V.closedAll_get hcl) noGh
  · obtain ⟨q, hq, rfl⟩ := List.getElem_of_mem hx
    have hq' : q < n.toNat * i.size := by simp at hq; omega
    have e1 : ((madeCells zv.cells (m.toNat * i.size)).toList.take (n.toNat * i.size))[q] = zv.cells.getD (q % i.size) undef := by
      rw [← hget q hq', List.getD_eq_getElem?_getD, List.getElem?_eq_getElem hq]; rfl
    have h4 : q % i.size < i.size := Nat.mod_lt _ hk0
    rw [e1]
    exact (hzc _ (by omega)).isOne (all_get hone (by omega))
end

section
variable {P : Program} {z : Start} {St : Nat → Prop} {g : Gh} {h : Heap} {w : World} {N : Nat} {t : List (Nat × V)} {a : Act} {b : List Nat} {o : Nat}
theorem run_appendZV (hs : WSim z St g h w) (ht : TSim St w g N t a) (hkeep : KD z St w g b a) {d : Nat} {ty ty' rt : TypeId} {x y : V} {u v : Value} (hl : Rel St w g x u) (hc : Rel St w g y v) {s' : S} {φ : Prop}
    (hn : appendZV P ⟨N, t, h, b, o⟩ d ty ty' x y = some (s', φ)) (hφ : φ) :
    ∃ v' w', (Builtin.append_ #[ty, ty'] rt #[u, v]).run P w = .ok v' w' ∧ Sim z s' (a.put (some d) v') w' := by
  unfold appendZV at hn
  split at hn
  case h_2 => cases hn
  rename_i e kt kn n hu hu'
  split at hn
  case h_2 => cases hn
  rename_i i hi
  split at hn
  case h_2 => cases hn
  rename_i zv hz
  dsimp only at hn
  split at hn
  case isFalse => cases hn
  rename_i hcnd
  obtain ⟨hdN, hk0, hzv, hzl, hone, hcl, hrb⟩ := hcnd
  cases hn
  obtain ⟨h0, h1, h2⟩ := hφ
  have := hl.nils_inv; subst this; have := hc.int_inv; subst this
  obtain ⟨hzs, hzc⟩ := (rel_vcon (St := St) (w := w) (g := g) zv).cells hzv
  have hzs' : zv.cells.size = i.size := by omega
  obtain ⟨k, rfl⟩ : ∃ k : Nat, n = (k : Int) := ⟨n.toNat, by omega⟩
  have h1' : k * i.bytes ≤ 140737488355328 := by
    have : (((k * i.bytes : Nat)) : Int) = (k : Int) * (i.bytes : Int) := Int.natCast_mul _ _
    omega
  have hrun := Lib.run_append_grow_zeros (P := P) w ty ty' rt e i zv kn kt hu hu' hi hz none 0 0 [] (run_firstCells_none w.drew i.size 0 0 0) k (by omega) hk0 (by omega) (by omega) (by omega) (growslice_fits (by omega) (by simpa using h1'))
  simp only [Nat.zero_add] at hrun
  refine ⟨_, _, hrun, ?_⟩
  have hG := grownCap_ge w k 0 e
  have hGm := grownCap_le_maxLen w k 0 e (by simp only [maxLen]; omega)
  generalize grownCap w k 0 e = G at hG hGm
  generalize hcells : (([] : List Value).toArray ++ Builtin.zeroCells zv.cells k ++ Builtin.zeroCells zv.cells (G - k)) = cur
  have hsz : cur.size = G * i.size := by
    rw [← hcells]
    simp [Builtin.zeroCells, hzs']
    rw [← Nat.add_mul]; congr 1; omega
  have hget : ∀ q, q < k * i.size → (cur.toList.take (k * i.size)).getD q undef = zv.cells.getD (q % i.size) undef := by
    intro q hq
    have h5 := zeroCells_get zv.cells k q (by rw [hzs']; exact hq) (by omega)
    rw [hzs'] at h5
    rw [← h5, ← hcells]
    have hl : q < (Builtin.zeroCells zv.cells k).toList.length := by simp [Builtin.zeroCells, hzs']; exact hq
    rw [List.getD_eq_getElem?_getD, List.getElem?_take, if_pos hq]
    simp only [Array.toList_append, List.nil_append]
    rw [List.getElem?_append_left hl, List.getD_eq_getElem?_getD]
  have hkm : k * i.size ≤ G * i.size := Nat.mul_le_mul_right _ hG
  have hhs : (w.drew.alloc (.cells cur e)).heap.size = w.heap.size + 1 := by
    rw [show (w.drew.alloc (.cells cur e)).heap = (w.alloc (.cells cur e)).heap from rfl]; simp
  have hnat : ((k : Int)).toNat = k := by simp
  rw [hnat]
  refine sim_rows (w' := w.drew.alloc (.cells cur e)) (v' := .slice (some ⟨w.heap.size, 0, none⟩) k G) (r := d + o) (e := e) (sz := i.size) (f := repF (vcon zv).cells) (n := k) hs ht hdN (ro := none) (xs := cur.toList.take (k * i.size)) (fun k hk => by cases hk) rfl rfl rfl (by omega) (fun k hk _ => heap_alloc_old w.drew _ k hk) (fun k hk => .inr (by simp [blockOf] at hk; subst hk; exact ⟨Nat.le_refl _, by omega⟩)) rfl ?_ (fun i' j hi' hj => ?_) (fun x hx => ?_) hkeep (notmem hrb)
  · refine ⟨by rw [List.length_take, Array.length_toList, hsz]; omega, .inr ⟨w.heap.size, G, _, rfl, Nat.zero_le _, heap_alloc_new w.drew _, hG, hGm, hsz, rfl⟩⟩
  · have hq := idx_lt hi' hj
    rw [hget _ hq]
    have e3 : (i' * i.size + j) % i.size = j := by rw [Nat.mul_comm, Nat.mul_add_mod, Nat.mod_eq_of_lt hj]
    rw [e3]
    exact (hzc j (by omega)).closed (V.closedAll_get hcl) noGh
  · obtain ⟨q, hq, rfl⟩ := List.getElem_of_mem hx
    have hq' : q < k * i.size := by simp at hq; omega
    have e1 : (cur.toList.take (k * i.size))[q] = zv.cells.getD (q % i.size) undef := by
      rw [← hget q hq', List.getD_eq_getElem?_getD, List.getElem?_eq_getElem hq]; rfl
    have h4 : q % i.size < i.size := Nat.mod_lt _ hk0
    rw [e1]
    exact (hzc _ (by omega)).isOne (all_get hone (by omega))
end
theorem run_hop {P : Program} {z : Start} {s s' : S} {a : Act} {w : World} (hs : Sim z s a w) {o : Oper} {φ : Prop} (hn : hop P s o.dst o.op = some (s', φ)) (hφ : φ) (ho : obl true s.t (needs o.op))
    {K : Act → World → Prop} {Q : Exit → Act → World → Prop} (hK : ∀ x w', Sim z s' (a.put o.dst x) w' → K (a.put o.dst x) w') : o.wp P a w K Q := by
  obtain ⟨St, g, hW, hT, hKp⟩ := hs
  have E := rel_ev hT rfl ho
  obtain ⟨N, t, h, bb, oo⟩ := s
  obtain ⟨dst, op, ty0, pos, after, guard⟩ := o
  dsimp only at hn E hW hT ho hKp
  unfold Oper.wp
  cases op <;> simp only [hop, reduceCtorEq] at hn <;> simp only [execOp]
  case alloc e =>
    split at hn
    case h_2 => cases hn
    rename_i d zz hz
    obtain ⟨zv, hzr, hze, hzrel⟩ := run_zeroV (P := P) (St := St) (w := w) (g := g) hz
    simp only [Instr.alloc, Sem.run_bind, hzr, Result.andThen_ok, newVar, newRow, run_newObj, Sem.run_pure, Oper.upon]
    exact hK _ _ (run_newBox hW hT hKp hzrel hn)
  case box e x =>
    split at hn
    case h_2 => cases hn
    rename_i d
    simp only [Instr.box, Sem.run_bind, Result.andThen_ok, newVar, newRow, run_newObj, Sem.run_pure, Oper.upon]
    exact hK _ _ (run_newBox hW hT hKp (E x (by simp [needs, Op.operands])) hn)
  case store ty p x =>
    have hp := E p (by simp [needs, Op.operands])
    have hx := E x (by simp [needs, Op.operands])
    split at hn
    · rename_i r off k hpe hk
      rw [hpe] at hp
      split at hn
      case h_2 => cases hn
      rename_i e cs hh
      split at hn
      case isFalse => cases hn
      rename_i hc
      cases hn
      obtain ⟨w', hrun, hsim⟩ := sim_store (P := P) hW hT hp hx hh hk hc.1 hc.2.1 hc.2.2.1 hc.2.2.2 hKp
      simp only [Sem.run_bind, hrun, Result.andThen_ok, Sem.run_pure, Oper.upon]
      exact hK _ _ hsim
    · rename_i r sz i off k hpe hk
      rw [hpe] at hp
      split at hn
      case h_2 => cases hn
      rename_i e sz' n f hh
      split at hn
      case isFalse => cases hn
      rename_i hc
      cases hn
      obtain ⟨rfl, hc⟩ := hc
      obtain ⟨w', hrun, hsim⟩ := sim_storeRow (P := P) hW hT hp hx hh hk hc.1 hc.2.1 hc.2.2.1 hc.2.2.2.1 hc.2.2.2.2 hφ hKp
      simp only [Sem.run_bind, hrun, Result.andThen_ok, Sem.run_pure, Oper.upon]
      exact hK _ _ hsim
    · cases hn
  case buildSlice ty len parts =>
    split at hn
    case h_2 => cases hn
    rename_i d
    obtain ⟨v', w', hrun, hsim⟩ := run_buildSliceV (P := P) hW hT hKp (us := parts.map fun (x : Nat × Operand) => match x with | (i, x) => (i, a.eval x)) (by simp) (fun i hi => by
      have hi' : i < parts.size := by simpa using hi
      have h2 : (parts.toList.map fun p => (p.1, ev t p.2)).getD i (0, .any) = (parts[i].1, ev t parts[i].2) := by simp [List.getD_eq_getElem?_getD, hi']
      have h3 : (parts.map fun (x : Nat × Operand) => match x with | (i, x) => (i, a.eval x)).getD i (0, undef) = (parts[i].1, a.eval parts[i].2) := by simp [hi']
      rw [h2, h3]
      exact ⟨rfl, E parts[i].2 (by simp only [needs, Op.operands]; simp; exact ⟨_, Array.getElem_mem hi'⟩)⟩) hn
    simp only [Sem.run_bind, hrun, Result.andThen_ok, Sem.run_pure, Oper.upon]
    exact hK _ _ hsim
  case makeSlice ty l c =>
    split at hn
    case h_2 => cases hn
    rename_i d
    obtain ⟨v', w', hrun, hsim⟩ := run_makeSliceV (P := P) hW hT hKp (E l (by simp [needs, Op.operands])) (E c (by simp [needs, Op.operands])) hn hφ
    simp only [Sem.run_bind, hrun, Result.andThen_ok, Sem.run_pure, Oper.upon]
    exact hK _ _ hsim
  case call cl =>
    split at hn
    case h_3 => cases hn
    case h_2 =>
      rename_i x t1 hcal hargs hts
      have ha : cl.args = #[x] := by rw [← Array.toArray_toList (xs := cl.args), hargs]
      have hty : cl.argTypes = #[t1] := by rw [← Array.toArray_toList (xs := cl.argTypes), hts]
      obtain ⟨w', hrun, hsim⟩ := run_clearV (P := P) (rt := ty0) hW hT hKp (E x (by simp [needs, Op.operands, Call.operands, hcal, ha])) hn hφ
      simp only [resolve, hcal, Sem.run_bind, Sem.run_pure, Result.andThen_ok, invoke, builtin, ha, hty, List.map_toArray, List.map_cons, List.map_nil]
      rw [hrun]
      simp only [Result.andThen_ok, Oper.upon]
      exact hK _ _ hsim
    rename_i x y t1 t2 d hcal hargs hts
    split at hn
    case isFalse =>
      have ha : cl.args = #[x, y] := by rw [← Array.toArray_toList (xs := cl.args), hargs]
      have hty : cl.argTypes = #[t1, t2] := by rw [← Array.toArray_toList (xs := cl.argTypes), hts]
      obtain ⟨v', w', hrun, hsim⟩ := run_appendZV (P := P) (rt := ty0) hW hT hKp (E x (by simp [needs, Op.operands, Call.operands, hcal, ha])) (E y (by simp [needs, Op.operands, Call.operands, hcal, ha])) hn hφ
      simp only [resolve, hcal, Sem.run_bind, Sem.run_pure, Result.andThen_ok, invoke, builtin, ha, hty, List.map_toArray, List.map_cons, List.map_nil]
      rw [hrun]
      simp only [Result.andThen_ok, Oper.upon]
      exact hK _ _ hsim
    rename_i htt
    subst htt
    have ha : cl.args = #[x, y] := by rw [← Array.toArray_toList (xs := cl.args), hargs]
    have hty : cl.argTypes = #[t1, t1] := by rw [← Array.toArray_toList (xs := cl.argTypes), hts]
    obtain ⟨v', w', hrun, hsim⟩ := run_appendV (P := P) (rt := ty0) hW hT hKp (E x (by simp [needs, Op.operands, Call.operands, hcal, ha])) (E y (by simp [needs, Op.operands, Call.operands, hcal, ha])) hn hφ
    simp only [resolve, hcal, Sem.run_bind, Sem.run_pure, Result.andThen_ok, invoke, builtin, ha, hty, List.map_toArray, List.map_cons, List.map_nil]
    rw [hrun]
    simp only [Result.andThen_ok, Oper.upon]
    exact hK _ _ hsim

end Go.Abs
namespace Go.Abs
open Go

/-! ### In whatever round -/
def WideR (ro : Option Nat) : Fence := { fn := fun _ => True, depth := none, alive := false, round := ro }
theorem callsR {ro : Option Nat} {n : Nat} {P : Program} {f : FuncId} {args : Array Value} {w : World} {R : Ending → World → Prop} (h : Calls P f args w R) : CallsIn (WideR ro) n P f args w R :=
  (callsIn_wide (n := n)).2 h
theorem rowsR {ro : Option Nat} {n : Nat} {P : Program} {row : String} {args : Array Value} {w : World} {R : Value → World → Prop} (h : Rows P row args w R) : RowsIn (WideR ro) n P row args w R :=
  fun c cs _ => let ⟨v, w', r, s⟩ := h c cs; ⟨v, w', r, stepsIn_wide.2 s⟩
theorem opUp {ro : Option Nat} {P : Program} {o : Oper} {a : Act} {w : World} {K : Act → World → Prop} {Q : Exit → Act → World → Prop} (hd : ∀ c, o.op ≠ .defer c) (h : o.wp P a w K Q) : o.wpIn (WideR ro) 1 P a w K Q := by
  refine ⟨fun _ _ => trivial, ?_⟩
  rw [show (WideR ro).round = ro from rfl, Oper.semAt_eq ro a.eval o hd]
  unfold Oper.wp at h
  revert h
  generalize (execOp a.eval o).run P w = res
  intro h
  cases res with
  | ok nx w' =>
    cases nx with
    | enter f args => exact ⟨fun h => (by cases h), callsR h⟩
    | row r args => exact ⟨fun h => (by cases h), rowsR h⟩
    | value => exact h
    | skip => exact h
    | defer => exact h
    | _ => exact h.elim
  | halt hl w' => cases hl <;> first | exact h | exact h.elim
section
variable {ro : Option Nat} {P : Program} {ops : Array Oper} {Q : Exit → Act → World → Prop} {a : Act} {w : World} {o : Oper} {rest : List Oper}
abbrev wpListR (ro : Option Nat) (P : Program) (ops : Array Oper) (Q : Exit → Act → World → Prop) : List Oper → Act → World → Prop := wpListIn (WideR ro) 1 P ops Q
theorem wpListR_step (hd : ∀ c, o.op ≠ .defer c) (h : ∀ K : Act → World → Prop, (∀ a w, wpListR ro P ops Q rest a w → K a w) →
    if Region.wanted o (yielded ops a.tmps) then o.wp P a w K Q else K (a.put o.dst undef) w) : wpListR ro P ops Q (o :: rest) a w :=
  wpListIn_step fun K hK => by
    have := h K hK
    split
    · rename_i hw; rw [if_pos hw] at this; exact opUp hd this
    · rename_i hw; rw [if_neg hw] at this; exact ⟨fun _ _ => trivial, this⟩
theorem wpListR_plain (hd : ∀ c, o.op ≠ .defer c) (hg : o.guard = none) (h : ∀ K : Act → World → Prop, (∀ a w, wpListR ro P ops Q rest a w → K a w) → o.wp P a w K Q) : wpListR ro P ops Q (o :: rest) a w :=
  wpListIn_plain hg fun K hK => opUp hd (h K hK)
end
theorem pval_nd {P : Program} {h : Heap} {wm c : Bool} {t : List (Nat × V)} {op : Op} {r : V × Prop} (hv : pval P h wm c t op = some r) : ∀ c, op ≠ .defer c := by
  rintro c rfl; cases hv
theorem hop_nd {P : Program} {s : S} {d : Option Nat} {op : Op} {r : S × Prop} (hv : hop P s d op = some r) : ∀ c, op ≠ .defer c := by
  rintro c rfl; cases hv

def tBin : BinOp → Bool
  | .eql => true
  | .neq => true
  | .lss => true
  | .leq => true
  | .gtr => true
  | .geq => true
  | .and => true
  | .or => true
  | .xor => true
  | .andNot => true
  | _ => false
/-- Operations that ask nothing. -/
def triv (t : List (Nat × V)) : Op → Bool
  | .move _ => true
  | .assign _ => true
  | .fieldAddr _ _ _ => true
  | .field _ _ _ => true
  | .extract _ _ => true
  | .build _ _ => true
  | .makeFunc _ _ _ => true
  | .nilCheck _ => true
  | .call _ => true
  | .load _ a => match ev t a with
    | .oelem _ _ _ _ => false
    | _ => true
  | .binOp op _ _ _ _ => tBin op
  | .unOp .not _ _ => true
  | _ => false

def trivH : Op → Bool
  | .alloc _ => true
  | .box _ _ => true
  | .buildSlice _ _ _ => true
  | _ => false

theorem triv_opV {P : Program} {wm : Bool} {op : BinOp} {ty : TypeId} {x y v : V} {φ : Prop} (h : opV P wm op ty x y = some (v, φ))
    (ht : tBin op = true) : φ := by
  unfold opV at h
  split at h
  · cases op <;> simp only [eqlV, reduceCtorEq] at h
    all_goals
      split at h
      · rw [Option.map_eq_some_iff] at h; obtain ⟨q, _, he⟩ := h; cases he; trivial
      · cases h
  · split at h
    · cases op <;> simp only [reduceCtorEq] at h <;> cases h <;> trivial
    · cases h
  · split at h
    · cases op <;> simp only [reduceCtorEq] at h <;> cases h <;> trivial
    · cases h
  · split at h
    · cases op <;> simp only [reduceCtorEq] at h <;> cases h <;> trivial
    · cases h
  · unfold binV at h
    split at h
    · cases op <;> (try (simp [tBin] at ht; done))
      all_goals
        dsimp only at h
        split at h
        · cases wm <;> simp only [intV, Option.some.injEq, Prod.mk.injEq] at h <;> obtain ⟨_, rfl⟩ := h <;> trivial
        · cases h
    · cases op <;> (try (simp [tBin] at ht; done))
      all_goals
        simp only [b16V, Option.some.injEq, Prod.mk.injEq] at h; obtain ⟨_, rfl⟩ := h; trivial
    · cases op <;> (try (simp [tBin] at ht; done)) <;> simp at h
    · cases op <;> (try (simp [tBin] at ht; done))
      all_goals first
        | (simp only [strV, Option.some.injEq, Prod.mk.injEq] at h; obtain ⟨_, rfl⟩ := h; trivial)
        | (simp [strV] at h)
    · cases h

theorem triv_pval {P : Program} {h : Heap} {wm c : Bool} {t : List (Nat × V)} {op : Op} {v : V} {φ : Prop} (hv : pval P h wm c t op = some (v, φ)) (ht : triv t op = true) : φ := by
  cases op <;> simp only [triv, Bool.false_eq_true] at ht <;> simp only [pval] at hv
  case move => cases hv; trivial
  case assign => cases hv; trivial
  case fieldAddr => rw [Option.map_eq_some_iff] at hv; obtain ⟨_, _, he⟩ := hv; cases he; trivial
  case field => rw [Option.map_eq_some_iff] at hv; obtain ⟨_, _, he⟩ := hv; cases he; trivial
  case extract =>
    split at hv
    · split at hv
      · cases hv; trivial
      · cases hv
    · cases hv
  case build => rw [Option.map_eq_some_iff] at hv; obtain ⟨_, _, he⟩ := hv; cases he; trivial
  case makeFunc =>
    split at hv
    · cases hv; trivial
    · cases hv
  case nilCheck => split at hv <;> cases hv <;> trivial
  case call =>
    split at hv
    · rw [Option.map_eq_some_iff] at hv; obtain ⟨_, _, he⟩ := hv; cases he; trivial
    · cases hv
  case load ty a =>
    split at ht
    · cases ht
    · rename_i hne
      unfold loadV at hv
      split at hv
      · split at hv
        · rw [Option.map_eq_some_iff] at hv; obtain ⟨_, _, he⟩ := hv; cases he; trivial
        · cases hv
      · rw [Option.map_eq_some_iff] at hv; obtain ⟨_, _, he⟩ := hv; cases he; trivial
      · rename_i he; exact absurd he (hne _ _ _ _)
      · cases hv
  case binOp op ty x y yt => exact triv_opV hv ht
  case unOp op ty x =>
    cases op <;> simp only [Bool.false_eq_true] at ht
    generalize ev t x = u at hv
    cases u <;> simp only [unV, reduceCtorEq, Option.some.injEq, Prod.mk.injEq] at hv
    obtain ⟨_, rfl⟩ := hv; trivial

theorem triv_hop {P : Program} {s s' : S} {dst : Option Nat} {op : Op} {φ : Prop} (hv : hop P s dst op = some (s', φ)) (ht : trivH op = true) : φ := by
  cases op <;> simp only [trivH, Bool.false_eq_true] at ht <;> simp only [hop] at hv
  case alloc =>
    split at hv
    · unfold newBox at hv; split at hv <;> cases hv; trivial
    · cases hv
  case box =>
    split at hv
    · unfold newBox at hv; split at hv <;> cases hv; trivial
    · cases hv
  case buildSlice =>
    split at hv
    · unfold buildSliceV at hv
      split at hv
      · split at hv
        · split at hv
          · split at hv <;> cases hv; trivial
          · cases hv
        · cases hv
      · cases hv
    · cases hv

/-- No operand hangs on a guard. -/
def noOpt (t : List (Nat × V)) : List Operand → Bool
  | [] => true
  | x :: l => match raw t x with
    | .opt _ _ => false
    | _ => noOpt t l
theorem noOpt_obl {c : Bool} {t : List (Nat × V)} : ∀ {l : List Operand}, noOpt t l = true → obl c t l
  | [], _ => trivial
  | x :: l, h => by
    simp only [noOpt] at h
    simp only [obl]
    split at h
    · cases h
    · rename_i hne
      split
      · rename_i c' v' he; exact absurd he (hne c' v')
      · exact noOpt_obl h

def andO : Option Prop → Prop → Prop
  | none, ψ => ψ
  | some φ, ψ => φ ∧ ψ

/-- What an operation asks, beside what its operands ask. -/
def cond2 (b : Bool) (φ : Prop) (nb : Bool) (o : Prop) : Option Prop :=
  match b, nb with
  | true, true => none
  | false, true => some φ
  | true, false => some o
  | false, false => some (φ ∧ o)
theorem cond2_ok {b : Bool} {φ : Prop} {nb : Bool} {o ψ : Prop} (h : andO (cond2 b φ nb o) ψ) (hb : b = true → φ) (hn : nb = true → o) : φ ∧ o ∧ ψ := by
  cases b <;> cases nb <;> simp only [cond2, andO] at h
  · exact ⟨h.1.1, h.1.2, h.2⟩
  · exact ⟨h.1, hn rfl, h.2⟩
  · exact ⟨hb rfl, h.1, h.2⟩
  · exact ⟨hb rfl, hn rfl, h⟩

/-- On what a guarded operation hangs. -/
def guardC (ops : Array Oper) (t : List (Nat × V)) (j : Nat) (want : Bool) : Option Bool :=
  match (ops[j]?).bind (·.dst) with
  | some d => if G0 ≤ d then none else match tget t d with
    | .bool b => some (b == want)
    | .opt c (.bool b) => some (c && (b == want))
    | _ => none
  | none => none

def wrapped (W : List Nat) (o : Oper) : Bool := match o.dst with
  | some d => W.contains d
  | none => false

def step (P : Program) (W : List Nat) (ops : Array Oper) (s : S) (o : Oper) : Option (S × Option Prop) :=
  match o.guard with
  | none =>
    match pval P s.h (wrapped W o) true s.t o.op with
    | some (v, φ) => match o.dst with
      | some d => if d < s.N then some (⟨s.N, (d, v) :: s.t, s.h, s.b, s.o⟩, cond2 (triv s.t o.op) φ (noOpt s.t (needs o.op)) (obl true s.t (needs o.op))) else none
      | none => some (s, cond2 (triv s.t o.op) φ (noOpt s.t (needs o.op)) (obl true s.t (needs o.op)))
    | none => match hop P s o.dst o.op with
      | some (s', φ) => some (s', cond2 (trivH o.op) φ (noOpt s.t (needs o.op)) (obl true s.t (needs o.op)))
      | none => none
  | some (j, want) => match guardC ops s.t j want, o.dst with
    | some c, some d => match pval P s.h (wrapped W o) c s.t o.op with
      | some (v, φ) => if d < s.N then some (⟨s.N, (d, .opt c v) :: s.t, s.h, s.b, s.o⟩, cond2 (triv s.t o.op) (c = true → φ) (noOpt s.t (needs o.op)) (obl c s.t (needs o.op))) else none
      | none => none
    | _, _ => none

def arun (P : Program) (W : List Nat) (ops : Array Oper) : Nat → List Oper → S → Option (List Oper × S × Prop)
  | 0, l, s => some (l, s, True)
  | _ + 1, [], s => some ([], s, True)
  | n + 1, o :: l, s => match step P W ops s o with
    | some (s', φ) => match arun P W ops n l s' with
      | some (l', s'', ψ) => some (l', s'', andO φ ψ)
      | none => none
    | none => none

theorem step_wp {P : Program} {W : List Nat} {ops : Array Oper} {z : Start} {s s' : S} {a : Act} {w : World} (hs : Sim z s a w) {o : Oper} {φ : Option Prop} {ψ : Prop} (hst : step P W ops s o = some (s', φ)) (hφ : andO φ ψ)
    {Q : Exit → Act → World → Prop} {rest : List Oper} {ro : Option Nat} (hK : ψ → ∀ a' w', Sim z s' a' w' → wpListR ro P ops Q rest a' w') : wpListR ro P ops Q (o :: rest) a w := by
  unfold step at hst
  split at hst
  · rename_i hg
    split at hst
    · rename_i v φ' hv
      have fin : ∀ {ψ' : Prop}, (φ' ∧ obl true s.t (needs o.op) ∧ ψ') → ψ' ∧ ∃ x, (execOp a.eval o).run P w = .ok (.value x) w ∧ (∃ St g, WSim z St g s.h w ∧ TSim St w g s.N s.t a ∧ KD z St w g s.b a ∧ Rel St w g v x) := by
        rintro ψ' ⟨h1, h2, h3⟩
        obtain ⟨St, g, hW, hT, hKp⟩ := hs
        obtain ⟨x, hx, hr⟩ := run_pval (P := P) hW.ok hT rfl hv h1 h2
        exact ⟨h3, x, hx, St, g, hW, hT, hKp, hr⟩
      split at hst
      · rename_i d hd
        split at hst
        case isFalse => cases hst
        rename_i hdN
        cases hst
        obtain ⟨hψ, x, hx, St, g, hW, hT, hKp, hr⟩ := fin (cond2_ok hφ (triv_pval hv) noOpt_obl)
        refine wpListR_plain (pval_nd hv) hg fun K hKK => ?_
        unfold Oper.wp
        rw [hx, Oper.upon_value, hd]
        exact hKK _ _ (hK hψ _ _ ⟨St, g, hW, hT.put hdN hr, hKp.to (fun _ h => h) (fun _ _ => rfl) (put_defers ..) (fun _ _ => rfl)⟩)
      · rename_i hd
        cases hst
        obtain ⟨hψ, x, hx, St, g, hW, hT, hKp, hr⟩ := fin (cond2_ok hφ (triv_pval hv) noOpt_obl)
        refine wpListR_plain (pval_nd hv) hg fun K hKK => ?_
        unfold Oper.wp
        rw [hx, Oper.upon_value, hd]
        exact hKK _ _ (hK hψ _ _ ⟨St, g, hW, hT, hKp⟩)
    · split at hst
      case h_2 => cases hst
      rename_i s'' φ' hn
      cases hst
      obtain ⟨h1, h2, h3⟩ := cond2_ok hφ (triv_hop hn) noOpt_obl
      refine wpListR_plain (hop_nd hn) hg fun K hKK => ?_
      exact run_hop hs hn h1 h2 fun a' w' hsim => hKK _ _ (hK h3 _ _ hsim)
  · rename_i j want hg
    split at hst
    case h_2 => cases hst
    rename_i c d hgc hd
    split at hst
    case h_2 => cases hst
    rename_i v φ' hv
    split at hst
    case isFalse => cases hst
    rename_i hdN
    cases hst
    obtain ⟨h1, h2, h3⟩ := cond2_ok hφ (fun ht _ => triv_pval hv ht) noOpt_obl
    obtain ⟨St, g, hW, hT, hKp⟩ := hs
    have hwant : Region.wanted o (yielded ops a.tmps) = c := by
      unfold guardC at hgc
      split at hgc
      case h_2 => cases hgc
      rename_i dj hdj
      split at hgc
      case isTrue => cases hgc
      rename_i hdjG
      have hrel := hT.tmp (d := dj) (by omega)
      have hy : yielded ops a.tmps j = match a.tmps.getD dj undef with | .bool b => some b | _ => none := by
        unfold yielded
        rw [hdj]
        simp only [Option.bind_some]
        by_cases hlt : dj < a.tmps.size
        · simp only [hlt, Array.getElem?_eq_getElem, Array.getD_eq_getD_getElem?, Option.getD_some]
          generalize a.tmps[dj] = q; cases q <;> rfl
        · simp [Array.getElem?_eq_none (Nat.le_of_not_lt hlt), undef]
      unfold Region.wanted
      rw [hg]
      dsimp only
      rw [hy]
      split at hgc
      · rename_i b hb; cases hgc; rw [hb] at hrel; rw [hrel.bool_inv]
        cases b <;> cases want <;> rfl
      · rename_i c' b hb; cases hgc; rw [hb] at hrel
        generalize a.tmps.getD dj undef = u at hrel
        cases hrel with
        | opt _ _ _ _ h h0 =>
          cases c' with
          | true => rw [(h rfl).bool_inv]; cases b <;> cases want <;> rfl
          | false => rw [h0 rfl]; rfl
      · cases hgc
    cases c with
    | true =>
      obtain ⟨x, hx, hr⟩ := run_pval (P := P) hW.ok hT rfl hv (h1 rfl) h2
      refine wpListR_step (pval_nd hv) fun K hKK => ?_
      rw [if_pos hwant]
      unfold Oper.wp
      rw [hx, Oper.upon_value, hd]
      exact hKK _ _ (hK h3 _ _ ⟨St, g, hW, hT.put hdN (.opt _ _ _ _ (fun _ => hr) (fun h => by cases h)), hKp.to (fun _ h => h) (fun _ _ => rfl) (put_defers ..) (fun _ _ => rfl)⟩)
    | false =>
      refine wpListR_step (pval_nd hv) fun K hKK => ?_
      rw [if_neg (by rw [hwant]; simp), hd]
      exact hKK _ _ (hK h3 _ _ ⟨St, g, hW, hT.put hdN (.opt _ _ _ _ (fun h => by cases h) (fun _ => rfl)), hKp.to (fun _ h => h) (fun _ _ => rfl) (put_defers ..) (fun _ _ => rfl)⟩)

/-- The post of a body's part: some state that 'Q' takes, and the model in it. -/
def Post (z : Start) (Q : Exit → S → Prop) : Exit → Act → World → Prop := fun e a w => ∃ s, Q e s ∧ Sim z s a w
def AOps (P : Program) (ops : Array Oper) (Q : Exit → S → Prop) (l : List Oper) (s : S) : Prop :=
  ∀ z a w, Sim z s a w → wpListR z.ro P ops (Post z Q) l a w
def AWp (P : Program) (c : Code) (Q : Exit → S → Prop) (s : S) : Prop :=
  ∀ z a w, Sim z s a w → c.wpIn (WideR z.ro) 1 P (Post z Q) a w

theorem arun_wp {P : Program} {W : List Nat} {ops : Array Oper} {Q : Exit → S → Prop} : ∀ (n : Nat) {l l' : List Oper} {s s' : S} {φ : Prop}, arun P W ops n l s = some (l', s', φ) → φ →
    AOps P ops Q l' s' → AOps P ops Q l s := by
  intro n
  induction n with
  | zero => intro l l' s s' φ h _ hK; simp only [arun] at h; cases h; exact hK
  | succ n ih =>
    intro l l' s s' φ h hφ hK
    cases l with
    | nil => simp only [arun] at h; cases h; exact hK
    | cons o l =>
      simp only [arun] at h
      split at h
      case h_2 => cases h
      rename_i s1 φ1 hst
      split at h
      case h_2 => cases h
      rename_i l2 s2 ψ hrest
      cases h
      intro z a w hs
      exact step_wp hs hst hφ fun hψ a' w' hsim => ih hrest hψ hK z a' w' hsim

theorem AOps.nil {P : Program} {ops : Array Oper} {Q : Exit → S → Prop} {s : S} (h : Q .normal s) : AOps P ops Q [] s := fun _ _ _ hs => ⟨s, h, hs⟩

/-! ### The rules for code -/
section
variable {P : Program} {Q : Exit → S → Prop} {s : S}
theorem AWp.skip (h : Q .normal s) : AWp P .skip Q s := fun _ _ _ hs => wpIn_skip ⟨s, h, hs⟩
theorem AWp.exit {id : Nat} (h : Q (.exit id) s) : AWp P (.exit id) Q s := fun _ _ _ hs => wpIn_exit ⟨s, h, hs⟩
theorem AWp.ret (h : Q .ret s) : AWp P .ret Q s := fun _ _ _ hs => wpIn_ret ⟨s, h, hs⟩
def thenQ (N : S → Prop) (Q : Exit → S → Prop) : Exit → S → Prop
  | .normal, s => N s
  | e, s => Q e s
theorem AWp.seq {x y : Code} (h : AWp P x (thenQ (AWp P y Q) Q) s) : AWp P (.seq x y) Q s := fun z a w hs =>
  wpIn_seq (wpIn_mono (h z a w hs) fun e a' w' ⟨s', hq, hs'⟩ => by
    cases e with
    | normal => exact hq z a' w' hs'
    | _ => exact ⟨s', hq, hs'⟩)
theorem AWp.mono {c : Code} {Q' : Exit → S → Prop} (h : AWp P c Q s) (hq : ∀ e s, Q e s → Q' e s) : AWp P c Q' s := fun z a w hs =>
  wpIn_mono (h z a w hs) fun e a' w' ⟨s', h1, h2⟩ => ⟨s', hq e s' h1, h2⟩
def blockQ (id : Nat) (Q : Exit → S → Prop) : Exit → S → Prop
  | .exit id', s => if id' = id then Q .normal s else Q (.exit id') s
  | e, s => Q e s
theorem AWp.block {id : Nat} {c : Code} (h : AWp P c (blockQ id Q) s) : AWp P (.block id c) Q s := fun z a w hs =>
  wpIn_block (wpIn_mono (h z a w hs) fun e a' w' ⟨s', hq, hs'⟩ => by
    cases e with
    | exit id' =>
      simp only [blockQ, Exit.inBlock] at hq ⊢
      split
      · rename_i hid; rw [if_pos hid] at hq; exact ⟨s', hq, hs'⟩
      · rename_i hid; rw [if_neg hid] at hq; exact ⟨s', hq, hs'⟩
    | _ => exact ⟨s', hq, hs'⟩)
theorem AWp.cond {c : Operand} {x y : Code} {b : Bool} (hc : raw s.t c = .bool b) (h1 : b = true → AWp P x Q s) (h2 : b = false → AWp P y Q s) : AWp P (.cond c x y) Q s := fun z a w hs => by
  obtain ⟨St, g, hW, hT, hKp⟩ := hs
  have := rel_raw hT c
  rw [hc] at this
  exact wpIn_cond_split this.bool_inv (fun hb => h1 hb z a w ⟨St, g, hW, hT, hKp⟩) (fun hb => h2 hb z a w ⟨St, g, hW, hT, hKp⟩)
theorem AWp.loop {c : Code} {α : Type} (inv : α → S) (pre : α → Prop) (μ : α → Nat) (x : α) (hx : pre x)
    (round : ∀ x, pre x → AWp P c (thenQ (fun s' => ∃ y, s' = inv y ∧ pre y ∧ μ y < μ x) Q) (inv x)) : AWp P (.loop c) Q (inv x) := by
  intro z a w hs
  refine wpIn_loop_ghost (fun n a w => ∃ x, pre x ∧ μ x = n ∧ Sim z (inv x) a w) (μ x) ⟨x, hx, rfl, hs⟩ ?_
  rintro n a w ⟨x, hx, rfl, hs⟩
  refine wpIn_mono (round x hx z a w hs) fun e a' w' ⟨s', hq, hs'⟩ => ?_
  cases e with
  | normal =>
    obtain ⟨y, rfl, hy, hlt⟩ := hq
    exact ⟨μ y, hlt, y, hy, rfl, hs'⟩
  | _ => exact ⟨s', hq, hs'⟩
theorem AWp.region {id : Nat} {l : List Oper} (h : AOps P l.toArray Q l s) : AWp P (.region id l.toArray false) Q s := fun z a w hs => wpIn_region_lit (h z a w hs)
end

end Go.Abs
namespace Go.Abs
open Go

/-! ### Saying less -/
def VLe (v v' : V) : Prop := ∀ St w g x, Rel St w g v x → Rel St w g v' x
def BLe (b b' : Blk) : Prop := ∀ St w g v, BlkOk St w g v b → BlkOk St w g v b'
def Le (s s' : S) : Prop := ∀ z a w, Sim z s a w → Sim z s' a w

theorem VLe.refl (v : V) : VLe v v := fun _ _ _ _ h => h
theorem VLe.of_eq {v v' : V} (h : v = v') : VLe v v' := h ▸ .refl v
theorem VLe.any (v : V) : VLe v .any := fun _ _ _ _ _ => .any _ _
theorem VLe.trans {a b c : V} (h : VLe a b) (h' : VLe b c) : VLe a c := fun St w g x r => h' St w g x (h St w g x r)
theorem BLe.refl (b : Blk) : BLe b b := fun _ _ _ _ h => h
theorem Le.refl (s : S) : Le s s := fun _ _ _ h => h
theorem Le.trans {a b c : S} (h : Le a b) (h' : Le b c) : Le a c := fun z x w r => h' z x w (h z x w r)

theorem VLe.arr {sz n n' : Nat} {f f' : Nat → Nat → V} (hn : n = n') (h : ∀ i j, i < n → j < sz → VLe (f i j) (f' i j)) : VLe (.arr sz n f) (.arr sz n' f') := by
  subst hn
  intro St w g x r
  cases r with
  | arr0 => exact .arr0 _ _ _
  | arr _ _ _ _ b o cap x hcap hmax hs hc h1 hr => exact .arr _ sz n f' b o cap x hcap hmax hs hc h1 fun i j hi hj => h i j hi hj _ _ _ _ (hr i j hi hj)
theorem VLe.arr_eq {sz n n' : Nat} {f f' : Nat → Nat → V} (hn : n = n') (h : ∀ i j, i < n → j < sz → f i j = f' i j) : VLe (.arr sz n f) (.arr sz n' f') :=
  .arr hn fun i j hi hj => .of_eq (h i j hi hj)
theorem VLe.nils {sz : Nat} {f : Nat → Nat → V} : VLe .nils (.arr sz 0 f) := fun _ _ _ _ r => by rw [r.nils_inv]; exact .arr0 _ _ _
theorem VLe.agg {cs cs' : List V} (hl : cs.length = cs'.length) (h : ∀ i, i < cs.length → VLe (cs.getD i .any) (cs'.getD i .any)) : VLe (.agg cs) (.agg cs') := by
  intro St w g x r
  obtain ⟨vs, rfl, hl2, hr⟩ := r.agg_inv
  exact .agg _ _ _ (hl2.trans hl) fun i hi => h i (by omega) _ _ _ _ (hr i (by omega))
theorem BLe.rows {e : TypeId} {sz n n' : Nat} {f f' : Nat → Nat → V} (hn : n = n') (h : ∀ i j, i < n → j < sz → VLe (f i j) (f' i j)) : BLe (.rows e sz n f) (.rows e sz n' f') := by
  subst hn
  rintro St w g v ⟨xs, ho, hr, h1⟩
  exact ⟨xs, ho, fun i j hi hj => h i j hi hj _ _ _ _ (hr i j hi hj), h1⟩
theorem BLe.rows_eq {e : TypeId} {sz n n' : Nat} {f f' : Nat → Nat → V} (hn : n = n') (h : ∀ i j, i < n → j < sz → f i j = f' i j) : BLe (.rows e sz n f) (.rows e sz n' f') :=
  .rows hn fun i j hi hj => .of_eq (h i j hi hj)
theorem BLe.cells {t : TypeId} {cs cs' : List V} (hl : cs.length = cs'.length) (h : ∀ i, i < cs.length → VLe (cs.getD i .any) (cs'.getD i .any)) : BLe (.cells t cs) (.cells t cs') := by
  rintro St w g v ⟨b, vals, rfl, hb, hs, hr, h1⟩
  exact ⟨b, vals, rfl, hb, hs.trans hl, fun i hi => h i (by omega) _ _ _ _ (hr i (by omega)), fun i hi => h1 i (by omega)⟩

def tcov (t : List (Nat × V)) : List (Nat × V) → Prop
  | [] => True
  | (d, v) :: l => VLe (tget t d) v ∧ tcov t l
theorem tcov_get {t : List (Nat × V)} : ∀ {l : List (Nat × V)}, tcov t l → ∀ d, VLe (tget t d) (tget l d)
  | [], _, d => .any _
  | (a, v) :: l, h, d => by
    simp only [tget]
    split
    · rename_i hd; subst hd; exact h.1
    · exact tcov_get h.2 d
def hcov (h : Heap) : Heap → Prop
  | [] => True
  | (r, b') :: l => (∃ b, h.get r = some b ∧ BLe b b') ∧ hcov h l
theorem hcov_get {h : Heap} : ∀ {l : Heap}, hcov h l → ∀ r b', l.get r = some b' → ∃ b, h.get r = some b ∧ BLe b b'
  | [], _, r, b', hg => by simp [Heap.get] at hg
  | (a, c) :: l, hh, r, b', hg => by
    simp only [Heap.get] at hg
    split at hg
    · rename_i ha; subst ha; cases hg; exact hh.1
    · exact hcov_get hh.2 r b' hg

theorem TSim.le {St : Nat → Prop} {w : World} {g : Gh} {N : Nat} {t t' : List (Nat × V)} {a : Act} (h : TSim St w g N t a) (ht : ∀ d, VLe (tget t d) (tget t' d)) : TSim St w g N t' a :=
  ⟨h.1, h.2.1, fun d => ht d _ _ _ _ (h.2.2 d)⟩
theorem Le.mk {s s' : S} (hN : s.N = s'.N) (hb : s'.b = s.b) (ht : tcov s.t s'.t) (hh : hcov s.h s'.h) : Le s s' := by
  rintro z a w ⟨St, g, hW, hT, hK⟩
  refine ⟨St, g, hW.less fun r b' hb' => ?_, hN ▸ hT.le (tcov_get ht), by rw [hb]; exact hK⟩
  obtain ⟨b, h1, h2⟩ := hcov_get hh r b' hb'
  exact ⟨b, h1, fun v hv => h2 _ _ _ _ hv⟩

/-- A nil slice becomes an own row without elements. -/
theorem Le.nilOwn {s : S} (d r : Nat) (e : TypeId) (sz : Nat) (f : Nat → Nat → V) (hd : tget s.t d = .nils) (hr : s.b.contains r = false) (hN : d < s.N) :
    Le s ⟨s.N, (d, .own r) :: tdrop r s.t, (r, .rows e sz 0 f) :: (hdrop r s.h).del r, s.b, s.o⟩ := by
  rintro z a w ⟨St, g, hW, hT, hK⟩
  have hrel := hT.tmp (d := d) (by have h1 := hT.1.2; have h2 : a.tmps.size = s.N := hT.2.1; omega)
  rw [hd] at hrel
  have hv := hrel.nils_inv
  have := sim_rows hW hT hN (v' := .slice none 0 0) (ro := none) (r := r) (xs := []) (e := e) (sz := sz) (n := 0) (f := f) (w' := w) (o := s.o) (fun k hk => by cases hk) rfl rfl rfl (Nat.le_refl _) (fun _ _ _ => rfl) (fun k hk => by simp [blockOf] at hk) rfl (World.ownsRow_nil w 0 e sz)
    (fun i j hi => by omega) (by simp) hK (notmem hr)
  have hput : a.put (some d) (.slice none 0 0) = a := by
    obtain ⟨tm, df⟩ := a
    have hlt : d < tm.size := by have h2 : tm.size = s.N := hT.2.1; omega
    have hv' : tm[d] = .slice none 0 0 := by simpa [hlt] using hv
    simp only [Act.put, Act.mk.injEq, and_true]
    rw [Array.setIfInBounds, dif_pos hlt, ← hv']
    exact Array.set_getElem_self hlt
  rwa [hput] at this

/-- The first elements of an own row become the own row. -/
theorem Le.cutOwn {s : S} (d r k : Nat) {e : TypeId} {sz n : Nat} {f : Nat → Nat → V} (hk : k ≤ n) (hd : tget s.t d = .osl r sz 0 k) (hh : s.h.get r = some (.rows e sz n f)) (hf : (!s.b.contains r && Nat.ble (d + 1) s.N) = true) :
    Le s ⟨s.N, (d, .own r) :: tdrop r s.t, (r, .rows e sz k f) :: (hdrop r s.h).del r, s.b, s.o⟩ := by
  rintro z a w ⟨St, g, hW, hT, hK⟩
  simp only [Bool.and_eq_true, Bool.not_eq_true', List.contains_eq_mem, decide_eq_false_iff_not] at hf
  obtain ⟨hr, hN⟩ := hf
  have hN := Nat.le_of_ble_eq_true hN
  have hrel := hT.tmp (d := d) (by have h1 := hT.1.2; have h2 : a.tmps.size = s.N := hT.2.1; omega)
  rw [hd] at hrel
  obtain ⟨u, hgu, xs, ho, hr', h1⟩ := hW.ok r _ hh
  have fin : ∀ {v' : Value} {xs' : List Value}, a.tmps.getD d undef = v' → v'.oneCell' = true → (∀ q, blockOf v' = some q → blockOf u = some q) → w.ownsRow 0 e sz v' k xs' →
      (∀ i j, i < k → j < sz → Rel St w noGh (f i j) (xs'.getD (i * sz + j) undef)) → (∀ x ∈ xs', x.oneCell' = true) →
      Sim z ⟨s.N, (d, .own r) :: tdrop r s.t, (r, .rows e sz k f) :: (hdrop r s.h).del r, s.b, s.o⟩ a w := by
    intro v' xs' hv h1v hbl ho' hr2 h12
    have := sim_rows hW hT hN (v' := v') (ro := blockOf u) (r := r) (xs := xs') (e := e) (sz := sz) (n := k) (f := f) (w' := w) (o := s.o) (fun q hq => ⟨_, _, hh, hgu, hq⟩) rfl rfl rfl (Nat.le_refl _) (fun _ _ _ => rfl) (fun q hq => .inl (hbl q hq)) h1v ho' hr2 h12 hK hr
    have hput : a.put (some d) v' = a := by
      obtain ⟨tm, df⟩ := a
      have hlt : d < tm.size := by have h2 : tm.size = s.N := hT.2.1; omega
      have hv' : tm[d] = v' := by simpa [hlt] using hv
      simp only [Act.put, Act.mk.injEq, and_true]
      rw [Array.setIfInBounds, dif_pos hlt, ← hv']
      exact Array.set_getElem_self hlt
    rwa [hput] at this
  generalize hx : a.tmps.getD d undef = x at hrel
  cases hrel with
  | osl _ _ _ _ _ bo n' cap hgg =>
    obtain ⟨hg, hle, hb0⟩ := hgg
    rw [hg] at hgu; cases hgu
    cases bo with
    | none =>
      have hc0 := hb0 rfl
      have hk0 : k = 0 := by omega
      subst hk0; subst hc0
      exact fin (xs' := []) hx rfl (fun q hq => by simp [blockOf] at hq) (World.ownsRow_nil w 0 e sz) (fun i j hi => by omega) (by simp)
    | some b0 =>
      rcases ho.2 with ⟨hu', hn⟩ | ⟨gg, cap', cur, hu', hbase, hb, hncap, hcapm, hsz, htake⟩
      · cases hu'
      simp only [Option.map] at hu' hx
      cases hu'
      have e1 : (if cap = 0 then 0 else 0 * sz) = 0 := by split <;> simp
      rw [e1, Nat.sub_zero] at hx
      have hks : k * sz ≤ n * sz := Nat.mul_le_mul_right _ hk
      refine fin (xs' := xs.take (k * sz)) hx rfl (fun q hq => by simpa [blockOf] using hq) ⟨by rw [List.length_take, ho.1]; omega, .inr ⟨b0, cap, cur, rfl, hbase, hb, by omega, hcapm, hsz, ?_⟩⟩ (fun i j hi hj => ?_) (fun x hx => h1 x (List.mem_of_mem_take hx))
      · rw [← htake, List.take_take, Nat.min_eq_left hks]
      · have hq := idx_lt hi hj
        have := hr' i j (by omega) hj
        rw [show (xs.take (k * sz)).getD (i * sz + j) undef = xs.getD (i * sz + j) undef by simp [List.getD_eq_getElem?_getD, hq]]
        exact this

mutual
/-- An own row is from now on an immutable slice. -/
def V.frz (r sz n : Nat) (f : Nat → Nat → V) : V → V
  | .own k => if k = r then .arr sz n f else .own k
  | .oelem k sz' i off => if k = r then .any else .oelem k sz' i off
  | .osl k sz' i off => if k = r then .any else .osl k sz' i off
  | .ptr k o => if k = r then .any else .ptr k o
  | .agg cs => .agg (V.frzAll r sz n f cs)
  | .tup cs => .tup (V.frzAll r sz n f cs)
  | .fn k cs => .fn k (V.frzAll r sz n f cs)
  | .opt _ _ => .any
  | v => v
def V.frzAll (r sz n : Nat) (f : Nat → Nat → V) : List V → List V
  | [] => []
  | v :: l => V.frz r sz n f v :: V.frzAll r sz n f l
end
theorem frzAll_length (r sz n : Nat) (f : Nat → Nat → V) : ∀ l : List V, (V.frzAll r sz n f l).length = l.length
  | [] => rfl
  | v :: l => by simp [V.frzAll, frzAll_length r sz n f l]
theorem frzAll_get (r sz n : Nat) (f : Nat → Nat → V) : ∀ (l : List V) (i : Nat), (V.frzAll r sz n f l).getD i .any = V.frz r sz n f (l.getD i .any)
  | [], i => by simp [V.frzAll, V.frz]
  | v :: l, 0 => by simp [V.frzAll]
  | v :: l, i + 1 => by simpa [V.frzAll] using frzAll_get r sz n f l i

theorem Rel.frz {St St' : Nat → Prop} {w : World} {r sz n : Nat} {f : Nat → Nat → V} {u : Value} (hS : ∀ k, St k → St' k) (hu : Rel St' w noGh (.arr sz n f) u) :
    ∀ {g : Gh} {v : V} {x : Value}, Rel St w g v x → g r = some u → Rel St' w g (V.frz r sz n f v) x := by
  intro g v x h
  induction h with
  | any => intro _; exact .any _ _
  | bool => intro _; exact .bool _ _
  | int => intro _; exact .int _ _ _
  | b16 => intro _; exact .b16 _ _
  | str g l s h => intro _; exact .str _ _ _ h
  | agg g cs vs hl h ih => intro e; simp only [V.frz]; exact .agg _ _ _ (by rw [frzAll_length]; exact hl) fun i hi => by rw [frzAll_get]; exact ih i (by rwa [frzAll_length] at hi) e
  | tup g cs vs hl h ih => intro e; simp only [V.frz]; exact .tup _ _ _ (by rw [frzAll_length]; exact hl) fun i hi => by rw [frzAll_get]; exact ih i (by rwa [frzAll_length] at hi) e
  | nils => intro _; exact .nils _
  | arr0 => intro _; exact .arr0 _ _ _
  | arr g sz n f b o cap x hcap hmax hs hc h1 hr ih => intro _; exact .arr _ sz n f b o cap x hcap hmax (fun h hz => hS _ (hs h hz)) hc h1 fun i j hi hj => (hr i j hi hj).mono hS (fun _ _ => rfl)
  | elem g sz n f i off b o x hi hs hc h1 hr ih => intro _; exact .elem _ sz n f i off b o x hi (fun hz => hS _ (hs hz)) hc h1 fun i j hi hj => (hr i j hi hj).mono hS (fun _ _ => rfl)
  | own g k v h h1 =>
    intro e; simp only [V.frz]
    split
    · rename_i hk; subst hk; rw [h] at e; cases e; exact noGh_any hu rfl
    · exact .own _ _ _ h h1
  | ptr g k off b h =>
    intro e; simp only [V.frz]
    split
    · exact .any _ _
    · exact .ptr _ _ _ _ h
  | oelem g k sz' i off b n' cap h =>
    intro e; simp only [V.frz]
    split
    · exact .any _ _
    · exact .oelem _ _ _ _ _ _ _ _ h
  | osl g k sz' i off b n' cap h =>
    intro e; simp only [V.frz]
    split
    · exact .any _ _
    · exact .osl _ _ _ _ _ _ _ _ h
  | fn g k cs vs hl h ih => intro e; simp only [V.frz]; exact .fn _ _ _ _ (by rw [frzAll_length]; exact hl) fun i hi => by rw [frzAll_get]; exact ih i (by rwa [frzAll_length] at hi) e
  | lit => intro _; exact .lit _ _
  | opt g c v x h h0 ih => intro _; exact .any _ _
  | abool g p b h => intro _; exact .abool _ p b h
  | mp g n kf vf b es hs ho hn hb hk hv => intro _; exact .mp _ n kf vf b es (hS _ hs) ho hn hb (fun i hi => (hk i hi).mono hS (fun _ _ => rfl)) fun i hi => (hv i hi).mono hS (fun _ _ => rfl)

def Blk.frz (r sz n : Nat) (f : Nat → Nat → V) : Blk → Blk
  | .cells t cs => .cells t (V.frzAll r sz n f cs)
  | b => b
def hfrz (r sz n : Nat) (f : Nat → Nat → V) (h : Heap) : Heap := h.map fun p => (p.1, p.2.frz r sz n f)
theorem get_hfrz (r sz n : Nat) (f : Nat → Nat → V) (k : Nat) : ∀ h : Heap, Heap.get (hfrz r sz n f h) k = (Heap.get h k).map (Blk.frz r sz n f)
  | [] => rfl
  | (a, b) :: h => by
    have ih := get_hfrz r sz n f k h
    unfold hfrz at ih ⊢
    simp only [List.map_cons, Heap.get]
    split
    · rfl
    · exact ih
def tfrz (r sz n : Nat) (f : Nat → Nat → V) (t : List (Nat × V)) : List (Nat × V) := t.map fun p => (p.1, V.frz r sz n f p.2)
theorem tget_frz (r sz n : Nat) (f : Nat → Nat → V) (k : Nat) : ∀ t : List (Nat × V), tget (tfrz r sz n f t) k = V.frz r sz n f (tget t k)
  | [] => rfl
  | (a, v) :: t => by
    have ih := tget_frz r sz n f k t
    unfold tfrz at ih ⊢
    simp only [List.map_cons, tget]
    split
    · rfl
    · exact ih

theorem Le.freeze {s : S} (r : Nat) {e : TypeId} {sz n : Nat} {f : Nat → Nat → V} (hh : s.h.get r = some (.rows e sz n f)) (_hr : s.b.contains r = false) :
    Le s ⟨s.N, tfrz r sz n f s.t, (hfrz r sz n f s.h).del r, s.b, s.o⟩ := by
  rintro z a w ⟨St, g, hW, hT, hK⟩
  obtain ⟨u, hgu, xs, ho, hrr, h1⟩ := hW.ok r _ hh
  let St' : Nat → Prop := fun k => St k ∨ blockOf u = some k
  have hS : ∀ k, St k → St' k := fun k hk => .inl hk
  have hu : Rel St' w noGh (.arr sz n f) u := by
    rcases ho.2 with ⟨rfl, hn⟩ | ⟨b, cap, cur, rfl, _, hb, hncap, hcapm, hsz, htake⟩
    · subst hn; exact .arr0 _ _ _
    · refine .arr _ sz n f b 0 cap (fun i j => xs.getD (i * sz + j) undef) hncap (Nat.le_trans hncap hcapm) (fun _ _ => .inr rfl) (fun i j hi hj => ?_) (fun i j hi hj => ?_) (fun i j hi hj => (hrr i j hi hj).mono hS (fun _ _ => rfl))
      · rw [Nat.zero_add]; exact ownsRow_cells ho rfl _ (idx_lt hi hj)
      · have hq := idx_lt hi hj
        refine h1 _ ?_
        have : i * sz + j < xs.length := by rw [ho.1]; exact hq
        rw [List.getD_eq_getElem?_getD, List.getElem?_eq_getElem this]
        exact List.getElem_mem this
  have hget : ∀ k b, Heap.get ((hfrz r sz n f s.h).del r) k = some b → k ≠ r ∧ ∃ b0, s.h.get k = some b0 ∧ b = b0.frz r sz n f := by
    intro k b hb
    rw [Heap.get_del] at hb
    split at hb
    · cases hb
    · rename_i hk
      rw [get_hfrz, Option.map_eq_some_iff] at hb
      obtain ⟨b0, h2, rfl⟩ := hb
      exact ⟨hk, b0, h2, rfl⟩
  refine ⟨St', g, ⟨hW.frm, fun k hk => .inl (hW.st0 k hk), ?_, ?_, ?_, ?_⟩, ⟨hT.1, hT.2.1, fun d => by rw [tget_frz]; exact Rel.frz hS hu (hT.2.2 d) hgu⟩, hK.to hS (fun _ _ => rfl) rfl (fun _ _ => rfl)⟩
  · rintro k (hk | hk)
    · exact hW.st1 k hk
    · refine ⟨?_, .inr (hW.ow r _ u hh hgu k hk).2⟩
      obtain ⟨v, h2, h3⟩ := hW.ok r _ hh
      rw [hgu] at h2; cases h2
      exact h3.lt k hk
  · intro k b v hb hv q hq
    obtain ⟨hkr, b0, h2, rfl⟩ := hget k b hb
    have h3 := hW.ow k b0 v h2 hv q hq
    refine ⟨?_, h3.2⟩
    rintro (h4 | h4)
    · exact h3.1 h4
    · exact hW.sep k r b0 _ v u h2 hh hv hgu hkr q hq h4
  · intro k b hb
    obtain ⟨hkr, b0, h2, rfl⟩ := hget k b hb
    obtain ⟨v, h3, h4⟩ := hW.ok k b0 h2
    refine ⟨v, h3, ?_⟩
    cases b0 with
    | rows e' sz' n' f' => exact h4.mono hS (fun _ _ => rfl) (fun _ _ => rfl) (r := r) (fun _ _ => rfl) (.inr rfl)
    | iter => exact h4.mono hS (fun _ _ => rfl) (fun _ _ => rfl) (r := r) (fun _ _ => rfl) (.inr rfl)
    | siter => exact h4.mono hS (fun _ _ => rfl) (fun _ _ => rfl) (r := r) (fun _ _ => rfl) (.inr rfl)
    | mapB => exact h4.mono hS (fun _ _ => rfl) (fun _ _ => rfl) (r := r) (fun _ _ => rfl) (.inr rfl)
    | yld => exact h4.mono hS (fun _ _ => rfl) (fun _ _ => rfl) (r := r) (fun _ _ => rfl) (.inr rfl)
    | cells t cs =>
      obtain ⟨b, vals, rfl, hb2, hl, hr2, h12⟩ := h4
      refine ⟨b, vals, rfl, hb2, by rw [frzAll_length]; exact hl, fun i hi => ?_, fun i hi => h12 i (by rwa [frzAll_length] at hi)⟩
      rw [frzAll_length] at hi
      rw [frzAll_get]
      exact Rel.frz hS hu (hr2 i hi) hgu
  · intro k k' b b' v v' hb hb' hv hv' hne
    obtain ⟨_, b0, h2, rfl⟩ := hget k b hb; obtain ⟨_, b0', h2', rfl⟩ := hget k' b' hb'
    exact hW.sep k k' b0 b0' v v' h2 h2' hv hv' hne

theorem AWp.le {P : Program} {c : Code} {Q : Exit → S → Prop} {s s' : S} (h : Le s s') (h' : AWp P c Q s') : AWp P c Q s := fun z a w hs => h' z a w (h z a w hs)
theorem AOps.le {P : Program} {ops : Array Oper} {Q : Exit → S → Prop} {l : List Oper} {s s' : S} (h : Le s s') (h' : AOps P ops Q l s') : AOps P ops Q l s := fun z a w hs => h' z a w (h z a w hs)
/-! ### A chunk of a region, down to what is used later -/
def proj (s : S) (ds rs : List Nat) : S := ⟨s.N, ds.map fun d => (d, tget s.t d), rs.filterMap fun r => (s.h.get r).map fun b => (r, b), s.b, s.o⟩
theorem tget_proj (t : List (Nat × V)) (d : Nat) : ∀ ds : List Nat, tget (ds.map fun d => (d, tget t d)) d = tget t d ∨ tget (ds.map fun d => (d, tget t d)) d = .any
  | [] => .inr rfl
  | a :: ds => by
    simp only [List.map_cons, tget]
    split
    · rename_i h; subst h; exact .inl rfl
    · exact tget_proj t d ds
theorem get_proj (h : Heap) (r : Nat) (b : Blk) : ∀ rs : List Nat, Heap.get (rs.filterMap fun r => (h.get r).map fun b => (r, b)) r = some b → h.get r = some b
  | [], hb => by simp [Heap.get] at hb
  | a :: rs, hb => by
    simp only [List.filterMap_cons] at hb
    cases ha : Heap.get h a with
    | none => rw [ha] at hb; exact get_proj h r b rs hb
    | some c =>
      rw [ha] at hb
      simp only [Option.map_some, Heap.get] at hb
      split at hb
      · rename_i e; subst e; rw [ha]; exact hb
      · exact get_proj h r b rs hb
theorem Le.proj (s : S) (ds rs : List Nat) : Le s (proj s ds rs) := by
  rintro z a w ⟨St, g, hW, hT, hK⟩
  exact ⟨St, g, hW.less fun r b hb => ⟨b, get_proj s.h r b rs hb, fun _ h => h⟩, hT.get_any fun d => tget_proj s.t d ds, hK⟩

def achunk (P : Program) (W : List Nat) (ops : Array Oper) (n : Nat) (ds rs : List Nat) (l : List Oper) (s : S) : Option (List Oper × S × Prop) :=
  match arun P W ops n l s with
  | some (l', s', φ) => some (l', proj s' ds rs, φ)
  | none => none
theorem AOps.chunk {P : Program} {W : List Nat} {ops : Array Oper} {Q : Exit → S → Prop} {n : Nat} {ds rs : List Nat} {l l' : List Oper} {s s' : S} {φ : Prop} (h : achunk P W ops n ds rs l s = some (l', s', φ)) (hφ : φ)
    (hK : AOps P ops Q l' s') : AOps P ops Q l s := by
  unfold achunk at h
  split at h
  case h_2 => cases h
  rename_i l1 s1 φ1 hr
  cases h
  exact arun_wp n hr hφ (.le (.proj s1 ds rs) hK)
/-! ### Entering and leaving a function -/
def resV1 (P : Program) (s : S) : ResultVar → Option V
  | .tmp t => if t < G0 then some (tget s.t t) else none
  | .cell a ty => if G0 ≤ a then none else match tget s.t a with
    | .ptr r off => (loadV P s.h ty (.ptr r off)).map (·.1)
    | _ => none
def resV (P : Program) (fn : Func) (s : S) : Option V :=
  match fn.results.toList.mapM (resV1 P s) with
  | some [v] => some v
  | some vs => some (.tup vs)
  | none => none

def resFn (a : Act) : ResultVar → Sem Value
  | .tmp t => pure (a.tmps.getD t undef)
  | .cell b t => do loadVar t (← asAddr (a.tmps.getD b undef))
theorem run_resV1 {P : Program} {St : Nat → Prop} {w : World} {g : Gh} {s : S} {a : Act} (hb : BOk St w g s.h) (ht : TSim St w g s.N s.t a) {r : ResultVar} {v : V} (h : resV1 P s r = some v) :
    ∃ x, (resFn a r).run P w = .ok x w ∧ Rel St w g v x := by
  cases r with
  | tmp t =>
    simp only [resV1] at h
    split at h
    case isFalse => cases h
    rename_i hg
    cases h; exact ⟨_, rfl, ht.tmp hg⟩
  | cell b ty =>
    simp only [resV1] at h
    split at h
    case isTrue => cases h
    rename_i hbG
    split at h
    case h_2 => cases h
    rename_i r off he
    rw [Option.map_eq_some_iff] at h
    obtain ⟨⟨v', φ⟩, hv, rfl⟩ := h
    have hr := ht.tmp (d := b) (by omega)
    rw [he] at hr
    have hφ : φ := by
      have hv' := hv
      simp only [loadV] at hv'
      split at hv'
      · rw [Option.map_eq_some_iff] at hv'; obtain ⟨_, _, e⟩ := hv'; cases e; trivial
      · cases hv'
    obtain ⟨y, hy, hrel⟩ := run_loadV (P := P) hb hr hv hφ
    refine ⟨y, ?_, hrel⟩
    show (do loadVar ty (← asAddr (a.tmps.getD b undef)) : Sem Value).run P w = .ok y w
    generalize a.tmps.getD b undef = u at hr hy ⊢
    cases hr with
    | ptr _ _ _ bb hg =>
      simp only [Sem.run_bind, asAddr, Sem.run_pure, Result.andThen_ok]
      simpa [Instr.loadAt, Instr.sureAddr] using hy

theorem run_mapM_res {P : Program} {St : Nat → Prop} {w : World} {g : Gh} {s : S} {a : Act} (hb : BOk St w g s.h) (ht : TSim St w g s.N s.t a) : ∀ {rs : List ResultVar} {vs : List V}, rs.mapM (resV1 P s) = some vs →
    ∃ xs : List Value, (rs.mapM (resFn a)).run P w = .ok xs w ∧ xs.length = vs.length ∧
      ∀ i, i < vs.length → Rel St w g (vs.getD i .any) (xs.getD i undef)
  | [], vs, h => by simp at h; subst h; exact ⟨[], rfl, rfl, fun i hi => by simp at hi⟩
  | r :: rs, vs, h => by
    simp only [List.mapM_cons, Option.bind_eq_bind, Option.bind_eq_some_iff, Option.pure_def, Option.some.injEq] at h
    obtain ⟨v, hv, vs', hvs, rfl⟩ := h
    obtain ⟨x, hx, hr⟩ := run_resV1 hb ht hv
    obtain ⟨xs, hxs, hl, hrs⟩ := run_mapM_res hb ht hvs
    refine ⟨x :: xs, ?_, by simp [hl], fun i hi => ?_⟩
    · simp only [List.mapM_cons, Sem.run_bind]
      rw [hx]
      simp only [Result.andThen_ok]
      rw [hxs]
      rfl
    · cases i with
      | zero => simpa using hr
      | succ i => simpa using hrs i (by simpa using hi)

theorem run_resV {P : Program} {St : Nat → Prop} {w : World} {g : Gh} {s : S} {a : Act} (hb : BOk St w g s.h) (ht : TSim St w g s.N s.t a) {fn : Func} {v : V} (h : resV P fn s = some v) :
    ∃ x, (results fn a.tmps).run P w = .ok x w ∧ Rel St w g v x := by
  unfold resV at h
  have key : ∀ vs, fn.results.toList.mapM (resV1 P s) = some vs → ∃ xs : List Value, (results fn a.tmps).run P w = .ok (if h : xs.toArray.size = 1 then xs.toArray[0] else .tuple xs.toArray) w ∧ xs.length = vs.length ∧
      ∀ i, i < vs.length → Rel St w g (vs.getD i .any) (xs.getD i undef) := by
    intro vs hvs
    obtain ⟨xs, hxs, hl, hr⟩ := run_mapM_res hb ht hvs
    refine ⟨xs, ?_, hl, hr⟩
    show (do let vs ← fn.results.mapM (resFn a); pure (if h : vs.size = 1 then vs[0] else .tuple vs) : Sem Value).run P w = _
    rw [Array.mapM_eq_mapM_toList, Sem.run_bind, Sem.run_map]
    rw [hxs]
    simp only [Result.andThen_ok, Sem.run_pure]
  split at h
  · rename_i v' hvs
    cases h
    obtain ⟨xs, hx, hl, hr⟩ := key _ hvs
    match xs, hl with
    | [x], _ => exact ⟨x, hx, by simpa using hr 0 (by simp)⟩
  · rename_i vs hne hvs
    cases h
    obtain ⟨xs, hx, hl, hr⟩ := key _ hvs
    have h1 : xs.toArray.size ≠ 1 := by
      intro e
      simp at e
      match vs, (hl.symm.trans e : vs.length = 1) with
      | [v], _ => exact hne v rfl
    rw [dif_neg h1] at hx
    refine ⟨_, hx, .tup _ _ _ (by simpa using hl) fun i hi => by simpa [List.getD_eq_getElem?_getD] using hr i hi⟩
  · cases h

/-- The contract of function 'f': called with such values, in a memory that holds such own blocks 'h0', it returns a value and own blocks that 'R' takes. -/
def Spec (P : Program) (f : FuncId) (gs : List (Nat × V)) (bk : List Nat) (h0 : Heap) (args : List V) (R : V → Heap → Prop) : Prop :=
  ∀ (z : Start) (vals : Array Value), WSim z z.St z.g h0 z.w → vals.size = args.length → (∀ i, i < args.length → Rel z.St z.w z.g (args.getD i .any) (vals.getD i undef)) → (∀ p ∈ gs, Rel z.St z.w z.g p.2 (.pointer (some ⟨p.1, 0, none⟩))) →
    Calls P f vals z.w (fun e w' => ∃ x r h1 St' g', e = .returned x ∧ R r h1 ∧ WSim z St' g' h1 w' ∧ Rel St' w' g' r x ∧
      (∀ k, k ∈ bk → g' k = z.g k))

theorem Spec.mono {P : Program} {f : FuncId} {gs : List (Nat × V)} {bk : List Nat} {h0 : Heap} {args : List V} {R R' : V → Heap → Prop} (h : Spec P f gs bk h0 args R) (hr : ∀ r h1, R r h1 → R' r h1) : Spec P f gs bk h0 args R' :=
  fun z vals h1 h2 h3 h4 => (h z vals h1 h2 h3 h4).mono fun _e w' ⟨x, r, hh, St', g', he, hR, rest⟩ => ⟨x, r, hh, St', g', he, hr _ _ hR, rest⟩
theorem Spec.args {P : Program} {f : FuncId} {gs : List (Nat × V)} {bk : List Nat} {h0 : Heap} {args args' : List V} {R : V → Heap → Prop} (h : Spec P f gs bk h0 args' R) (hl : args.length = args'.length) (ha : ∀ i, i < args.length → VLe (args.getD i .any) (args'.getD i .any)) : Spec P f gs bk h0 args R :=
  fun z vals h1 h2 h3 h4 => h z vals h1 (h2.trans hl) (fun i hi => ha i (by omega) _ _ _ _ (h3 i (by omega))) h4

def initT : Nat → List V → List (Nat × V)
  | _, [] => []
  | k, v :: l => (k, v) :: initT (k + 1) l
theorem tget_initT : ∀ (l : List V) (k d : Nat), tget (initT k l) d = if k ≤ d then l.getD (d - k) .any else .any
  | [], k, d => by simp [initT, tget]
  | v :: l, k, d => by
    simp only [initT, tget]
    split
    · rename_i h; subst h; simp
    · rename_i h
      rw [tget_initT l (k + 1) d]
      by_cases h1 : k ≤ d
      · rw [if_pos (by omega), if_pos h1]
        have : d - k = (d - (k + 1)) + 1 := by omega
        rw [this, List.getD_cons_succ]
      · rw [if_neg (by omega), if_neg h1]

/-- What a function's body ends in. -/
def bodyQ (P : Program) (fn : Func) (b : List Nat) (R : V → Heap → Prop) : Exit → S → Prop
  | .normal, s => ∃ s', Le s s' ∧ ∃ v, resV P fn s' = some v ∧ R v s'.h ∧ s'.b = b
  | .ret, s => ∃ v, resV P fn s = some v ∧ R v s.h ∧ s.b = b
  | _, _ => False

def globT (gs : List (Nat × V)) : List (Nat × V) := gs.map fun p => (G0 + p.1, p.2)
theorem tget_app (d : Nat) (l2 : List (Nat × V)) : ∀ l1 : List (Nat × V), tget (l1 ++ l2) d = if d ∈ l1.map (·.1) then tget l1 d else tget l2 d
  | [] => by simp
  | (k, v) :: l1 => by
    simp only [List.cons_append, tget, List.map_cons, List.mem_cons]
    by_cases h : k = d
    · subst h; simp
    · have h' : ¬ d = k := fun e => h e.symm
      rw [if_neg h, if_neg h, tget_app d l2 l1]
      by_cases hm : d ∈ l1.map (·.1)
      · rw [if_pos hm, if_pos (.inr hm)]
      · rw [if_neg hm, if_neg (fun h2 => h2.elim h' hm)]
theorem mem_initT0 {d : Nat} : ∀ {l : List V} {k : Nat}, d ∈ (initT k l).map (·.1) ↔ k ≤ d ∧ d < k + l.length
  | [], k => by simp [initT]
  | v :: l, k => by simp only [initT, List.map_cons, List.mem_cons, mem_initT0 (l := l), List.length_cons]; omega
theorem mem_initT {d : Nat} {l : List V} : d ∈ (initT 0 l).map (·.1) ↔ d < l.length := by rw [mem_initT0]; omega
theorem rel_globT {St : Nat → Prop} {w : World} {g : Gh} {a : Act} : ∀ {gs : List (Nat × V)}, (∀ p ∈ gs, Rel St w g p.2 (.pointer (some ⟨p.1, 0, none⟩))) → ∀ d, Rel St w g (tget (globT gs) d) (sval a d)
  | [], _, d => .any _ _
  | p :: gs, h, d => by
    have ih := rel_globT (a := a) (fun q hq => h q (List.mem_cons_of_mem _ hq)) d
    unfold globT at ih ⊢
    simp only [List.map_cons, tget]
    split
    · rename_i e; subst e
      rw [sval, if_neg (by omega), Nat.add_sub_cancel_left]
      exact h p (List.mem_cons_self ..)
    · exact ih

/-- A block that holds data. -/
def isData (w : World) (k : Nat) : Prop := (∃ i x, w.cell? ⟨k, i, none⟩ = some x) ∨ ∃ es n, w.heap[k]? = some (.map es n)
theorem not_deferred {w : World} {k : Nat} (h : isData w k) : ∀ ds, w.heap[k]? ≠ some (.deferred ds) := by
  rintro ds e
  rcases h with ⟨i, x, h⟩ | ⟨es, n, h⟩
  · simp [World.cell?, e] at h
  · rw [e] at h; cases h
theorem not_loop {w : World} {k : Nat} (h : isData w k) : ∀ r, w.heap[k]? ≠ some (.loop r) := by
  rintro r e
  rcases h with ⟨i, x, h⟩ | ⟨es, n, h⟩
  · simp [World.cell?, e] at h
  · rw [e] at h; cases h
/-- Stable blocks that hold data stay so where the others are struck. -/
theorem Rel.cut {St St' : Nat → Prop} {w w' : World} (hS : ∀ k, St k → isData w k → St' k) (hw : ∀ k, St' k → w'.heap[k]? = w.heap[k]?) :
    ∀ {g : Gh} {v : V} {x : Value}, Rel St w g v x → Rel St' w' g v x := by
  have data : ∀ {b i : Nat} {x : Value}, w.cell? ⟨b, i, none⟩ = some x → isData w b := fun hc => .inl ⟨_, _, hc⟩
  intro g v x h
  induction h with
  | any g x => exact .any g x
  | bool g b => exact .bool g b
  | int g k n => exact .int g k n
  | b16 g x => exact .b16 g x
  | str g l s h => exact .str g l s h
  | agg g cs vs hl h ih => exact .agg g cs vs hl ih
  | tup g cs vs hl h ih => exact .tup g cs vs hl ih
  | nils g => exact .nils g
  | arr0 g sz f => exact .arr0 g sz f
  | arr g sz n f b o cap x hcap hmax hs hc h1 hr ih =>
    have hb : 0 < n → 0 < sz → St' b := fun hn hz => hS b (hs hn hz) (data (hc 0 0 hn hz))
    exact .arr g sz n f b o cap x hcap hmax hb (fun i j hi hj => by
      rw [World.cell?_of_block (w := w) (hw b (hb (by omega) (by omega)))]; exact hc i j hi hj) h1 ih
  | elem g sz n f i off b o x hi hs hc h1 hr ih =>
    have hb : 0 < sz → St' b := fun hz => hS b (hs hz) (data (hc i 0 hi hz))
    exact .elem g sz n f i off b o x hi hb (fun i j hi hj => by
      rw [World.cell?_of_block (w := w) (hw b (hb (by omega)))]; exact hc i j hi hj) h1 ih
  | own g r v h h1 => exact .own g r v h h1
  | ptr g r off b h => exact .ptr g r off b h
  | oelem g r sz i off b n cap h => exact .oelem g r sz i off b n cap h
  | osl g r sz i off b n cap h => exact .osl g r sz i off b n cap h
  | fn g f cs vs hl h ih => exact .fn g f cs vs hl ih
  | lit g x => exact .lit g x
  | opt g c v x h h0 ih => exact .opt g c v x ih h0
  | abool g p b h => exact .abool g p b h
  | mp g n kf vf b es hs ho hn hb hk hv ihk ihv =>
    have hb' : St' b := hS b hs (.inr ⟨_, _, ho⟩)
    exact .mp g n kf vf b es hb' (by rw [hw b hb']; exact ho) hn hb ihk ihv
theorem BlkOk.cut {St St' : Nat → Prop} {w w' : World} (hS : ∀ k, St k → isData w k → St' k) (hw : ∀ k, St' k → w'.heap[k]? = w.heap[k]?)
    {g : Gh} {v : Value} {b : Blk} (h : BlkOk St w g v b) (hb : ∀ k, blockOf v = some k → w'.heap[k]? = w.heap[k]?) : BlkOk St' w' g v b := by
  cases b with
  | cells t cs =>
    obtain ⟨b, vals, rfl, hh, hl, hr, h1⟩ := h
    exact ⟨b, vals, rfl, by rw [hb b rfl]; exact hh, hl, fun i hi => (hr i hi).cut hS hw, h1⟩
  | rows e sz n f =>
    obtain ⟨xs, ho, hr, h1⟩ := h
    exact ⟨xs, ownsRow_heap ho hb, fun i j hi hj => (hr i j hi hj).cut hS hw, h1⟩
  | iter n kf vf seen =>
    obtain ⟨b, m, rfl, hh, hr⟩ := h
    exact ⟨b, m, rfl, by rw [hb b rfl]; exact hh, hr.cut hS hw⟩
  | siter l pos =>
    obtain ⟨b, s, rfl, hh, hr⟩ := h
    exact ⟨b, s, rfl, by rw [hb b rfl]; exact hh, hr⟩
  | mapB n kf vf =>
    obtain ⟨b, es, rfl, hh, hn, hbn, hk, hv⟩ := h
    exact ⟨b, es, rfl, by rw [hb b rfl]; exact hh, hn, hbn, fun i hi => (hk i hi).cut hS hw, fun i hi => (hv i hi).cut hS hw⟩
  | yld o k =>
    obtain ⟨l, r, rfl, hh, hy⟩ := h
    refine ⟨l, r, rfl, by rw [hb l rfl]; exact hh, ?_⟩
    cases o with
    | none => trivial
    | some p =>
      obtain ⟨ids, C⟩ := p
      obtain ⟨h1, h2, h3, h4, h5, h6, h6', h7, h8, h9⟩ := hy
      exact ⟨h1, h2, h3, h4, h5, h6, h6', h7, h8, fun d => (h9 d).cut hS hw⟩

/-- Out past the marks. -/
theorem leave_marks {F : Fence} {n : Nat} {P : Program} {fn : Func} {tmps : Array Value} {R : Ending → World → Prop} : ∀ (dm : List Nat) (w : World), dm.Nodup → (∀ D, D ∈ dm → w.heap[D]? = some (.deferred (some []))) →
    (∀ w' : World, w'.os = w.os → w'.tape = w.tape → w'.output = w.output → w'.heap.size = w.heap.size → (∀ k, k ∉ dm → w'.heap[k]? = w.heap[k]?) → LeavesInM F n P fn tmps R [] .returning w') → LeavesInM F n P fn tmps R (dm.map markD) .returning w
  | [], w, _, _, h => h w rfl rfl rfl rfl fun _ _ => rfl
  | D :: dm, w, hnd, hd, h => by
    have hD := hd D (List.mem_cons_self ..)
    refine ⟨by simp, .inl ⟨D, _, rfl, run_takeDeferred hD, ?_⟩⟩
    rw [List.nodup_cons] at hnd
    refine leave_marks dm _ hnd.2 (fun D' hD' => ?_) fun w' h1 h2 h3 h4 h5 => ?_
    · rw [World.putObj_heap_other (by rintro rfl; exact hnd.1 hD')]; exact hd D' (List.mem_cons_of_mem _ hD')
    · refine h w' h1 h2 h3 (h4.trans World.putObj_size) fun k hk => ?_
      rw [h5 k (fun h => hk (List.mem_cons_of_mem _ h)), World.putObj_heap_other (by rintro rfl; exact hk (List.mem_cons_self ..))]

theorem Spec.body {P : Program} {f : FuncId} {fn : Func} {c : Code} {N : Nat} {h0 : Heap} {args : List V} {R : V → Heap → Prop} (o : Nat) (gs : List (Nat × V)) (bk : List Nat) (hf : P.funcs[f]? = some fn) (hb : fn.body = some c) (hN : fn.ntmps = N) (hle : args.length ≤ N) (hG : N ≤ G0)
    (h : AWp P c (bodyQ P fn bk R) ⟨N, initT 0 args ++ globT gs, h0, bk, o⟩) : Spec P f gs bk h0 args R := by
  intro z1 vals hW1 hl hr hgs
  let z : Start := { z1 with ro := none }
  have hW : WSim z z.St z.g h0 z.w := ⟨hW1.frm, hW1.st0, hW1.st1, hW1.ow, hW1.ok, hW1.sep⟩
  refine (callsIn_wide (n := 1)).1 (callsIn_of_wp_marks (F := WideR none) hf hb trivial ?_)
  have hsim : Sim z ⟨N, initT 0 args ++ globT gs, h0, bk, o⟩ { tmps := vals ++ Array.replicate (fn.ntmps - vals.size) undef, defers := [] } z.w := by
    refine ⟨z.St, z.g, hW, ⟨⟨trivial, by simp; omega⟩, by simp; omega, fun d => ?_⟩, ⟨fun _ _ => rfl, ⟨[], .nil, rfl, fun D hD => by cases hD⟩, fun _ h => (by cases h), fun _ => rfl⟩⟩
    rw [tget_app]
    by_cases hd : d < args.length
    · rw [tget_initT]
      simp only [Nat.zero_le, if_true, Nat.sub_zero]
      have := hr d hd
      have h2 : d < vals.size := by omega
      rw [if_pos (mem_initT.2 hd), sval, if_pos (by omega)]
      simpa [Array.getElem?_append, h2] using this
    · rw [if_neg (fun h => hd (mem_initT.1 h))]
      exact rel_globT hgs d
  refine wpIn_mono (h z _ _ hsim) fun e a w' ⟨s', hq, hs'⟩ => ?_
  have fin : ∀ s', Sim z s' a w' → (∃ v, resV P fn s' = some v ∧ R v s'.h ∧ s'.b = bk) → LeavesInM (WideR none) 1 P fn a.tmps (fun e w' => ∃ x r h1 St' g', e = .returned x ∧ R r h1 ∧ WSim z1 St' g' h1 w' ∧ Rel St' w' g' r x ∧
      (∀ k, k ∈ bk → g' k = z1.g k)) a.defers .returning w' := by
    rintro s' hs' ⟨v, hv, hR, hsb⟩
    obtain ⟨St', g', hW', hT', hK', ⟨dm, hnd, hdm, hall⟩, _, _⟩ := hs'
    rw [hdm]
    refine leave_marks dm w' hnd (fun D hD => (hall D hD).2.1) fun w2 e1 e2 e3 e4 e5 => ?_
    let St2 : Nat → Prop := fun k => St' k ∧ k ∉ dm
    have hS : ∀ k, St' k → isData w' k → St2 k := fun k hk hnd => ⟨hk, fun hm => not_deferred hnd _ (hall k hm).2.1⟩
    have hw2 : ∀ k, St2 k → w2.heap[k]? = w'.heap[k]? := fun k hk => e5 k hk.2
    have hW2 : WSim z St2 g' s'.h w2 := by
      refine ⟨⟨e1.trans hW'.frm.os, e2.trans hW'.frm.tape, e3.trans hW'.frm.output, by rw [e4]; exact hW'.frm.size, fun k hk hno => ?_⟩, fun k hk => ⟨hW'.st0 k hk, fun hm => ?_⟩, fun k hk => ?_, fun r b u hb hu k hk => ?_, fun r b hb => ?_, hW'.sep⟩
      · rw [e5 k (fun hm => by have := (hall k hm).2.2; omega)]; exact hW'.frm.block k hk hno
      · have := (hW.st1 k hk).1; have := (hall k hm).2.2; omega
      · rw [e4]; exact hW'.st1 k hk.1
      · have := hW'.ow r b u hb hu k hk; exact ⟨fun h => this.1 h.1, this.2⟩
      · obtain ⟨u, hu, hok⟩ := hW'.ok r b hb
        exact ⟨u, hu, hok.cut hS hw2 fun k hk => e5 k fun hm => (hW'.ow r b u hb hu k hk).1 (hall k hm).1⟩
    have hT2 : TSim St2 w2 g' s'.N s'.t a := ⟨hT'.1, hT'.2.1, fun d => (hT'.2.2 d).cut hS hw2⟩
    obtain ⟨x, hx, hrel⟩ := run_resV (P := P) hW2.ok hT2 hv
    exact ⟨x, hx, x, v, s'.h, St2, g', rfl, hR, ⟨hW2.frm, hW2.st0, hW2.st1, hW2.ow, hW2.ok, hW2.sep⟩, hrel, fun k hk => hK' k (by rw [hsb]; exact hk)⟩
  cases e with
  | normal => exact hq.elim fun s2 h2 => fin s2 (h2.1 _ _ _ hs') h2.2
  | ret => exact fin s' hs' hq
  | _ => exact hq.elim

end Go.Abs
namespace Go.Abs
open Go

mutual
def V.flat : V → Bool
  | .arr _ _ _ => false
  | .elem _ _ _ _ _ => false
  | .mp _ _ _ => false
  | .agg cs => V.flatAll cs
  | .tup cs => V.flatAll cs
  | .fn _ cs => V.flatAll cs
  | .opt _ v => V.flat v
  | _ => true
def V.flatAll : List V → Bool
  | [] => true
  | v :: l => V.flat v && V.flatAll l
end
theorem V.flatAll_get : ∀ {l : List V} {i : Nat}, V.flatAll l = true → V.flat (l.getD i .any) = true
  | [], i, _ => by simp [V.flat]
  | v :: l, 0, h => by simp only [V.flatAll, Bool.and_eq_true] at h; simpa using h.1
  | v :: l, i + 1, h => by simp only [V.flatAll, Bool.and_eq_true] at h; simpa using V.flatAll_get (i := i) h.2
theorem Rel.flat {St St' : Nat → Prop} {w : World} : ∀ {g : Gh} {v : V} {x : Value}, Rel St w g v x → v.flat = true → Rel St' w g v x := by
  intro g v x h
  induction h with
  | any => intro _; exact .any _ _
  | bool => intro _; exact .bool _ _
  | int => intro _; exact .int _ _ _
  | b16 => intro _; exact .b16 _ _
  | str g l s h => intro _; exact .str _ _ _ h
  | agg g cs vs hl h ih => intro e; simp only [V.flat] at e; exact .agg _ _ _ hl fun i hi => ih i hi (V.flatAll_get e)
  | tup g cs vs hl h ih => intro e; simp only [V.flat] at e; exact .tup _ _ _ hl fun i hi => ih i hi (V.flatAll_get e)
  | nils => intro _; exact .nils _
  | arr0 => intro _; exact .arr0 _ _ _
  | arr g sz n f b o cap x hcap hmax hs hc h1 hr ih => intro e; simp [V.flat] at e
  | elem g sz n f i off b o x hi hs hc h1 hr => intro e; simp [V.flat] at e
  | own g r v h h1 => intro _; exact .own _ _ _ h h1
  | ptr g r off b h => intro _; exact .ptr _ _ _ _ h
  | oelem g r sz i off b n cap h => intro _; exact .oelem _ _ _ _ _ _ _ _ h
  | osl g r sz i off b n cap h => intro _; exact .osl _ _ _ _ _ _ _ _ h
  | fn g f cs vs hl h ih => intro e; simp only [V.flat] at e; exact .fn _ _ _ _ hl fun i hi => ih i hi (V.flatAll_get e)
  | lit => intro _; exact .lit _ _
  | abool g p b h => intro _; exact .abool _ p b h
  | mp g n kf vf b es hs ho hn hb hk hv => intro e; simp [V.flat] at e
  | opt g c v x h h0 ih => intro e; simp only [V.flat] at e; exact .opt _ _ _ _ (fun hc => ih hc e) h0

mutual
def V.within (ids : List Nat) : V → Bool
  | .own r => ids.contains r
  | .ptr r _ => ids.contains r
  | .oelem r _ _ _ => ids.contains r
  | .osl r _ _ _ => ids.contains r
  | .agg cs => V.withinAll ids cs
  | .tup cs => V.withinAll ids cs
  | .fn _ cs => V.withinAll ids cs
  | .opt _ v => V.within ids v
  | _ => true
def V.withinAll (ids : List Nat) : List V → Bool
  | [] => true
  | v :: l => V.within ids v && V.withinAll ids l
end
theorem V.withinAll_get {ids : List Nat} : ∀ {l : List V} {i : Nat}, V.withinAll ids l = true → V.within ids (l.getD i .any) = true
  | [], i, _ => by simp [V.within]
  | v :: l, 0, h => by simp only [V.withinAll, Bool.and_eq_true] at h; simpa using h.1
  | v :: l, i + 1, h => by simp only [V.withinAll, Bool.and_eq_true] at h; simpa using V.withinAll_get (i := i) h.2
theorem Rel.within {St : Nat → Prop} {w : World} {ids : List Nat} : ∀ {g : Gh} {v : V} {x : Value}, Rel St w g v x → ∀ {g' : Gh}, (∀ k, k ∈ ids → g' k = g k) → v.within ids = true → Rel St w g' v x := by
  intro g v x h
  induction h with
  | any => intro _ _ _; exact .any _ _
  | bool => intro _ _ _; exact .bool _ _
  | int => intro _ _ _; exact .int _ _ _
  | b16 => intro _ _ _; exact .b16 _ _
  | str g l s h => intro _ _ _; exact .str _ _ _ h
  | agg g cs vs hl h ih => intro g' hg e; simp only [V.within] at e; exact .agg _ _ _ hl fun i hi => ih i hi hg (V.withinAll_get e)
  | tup g cs vs hl h ih => intro g' hg e; simp only [V.within] at e; exact .tup _ _ _ hl fun i hi => ih i hi hg (V.withinAll_get e)
  | nils => intro _ _ _; exact .nils _
  | arr0 => intro _ _ _; exact .arr0 _ _ _
  | arr g sz n f b o cap x hcap hmax hs hc h1 hr ih => intro _ _ _; exact .arr _ sz n f b o cap x hcap hmax hs hc h1 hr
  | elem g sz n f i off b o x hi hs hc h1 hr ih => intro _ _ _; exact .elem _ sz n f i off b o x hi hs hc h1 hr
  | own g r v h h1 => intro g' hg e; simp [V.within] at e; exact .own _ _ _ (by rw [hg r e]; exact h) h1
  | ptr g r off b h => intro g' hg e; simp [V.within] at e; exact .ptr _ _ _ _ (by rw [hg r e]; exact h)
  | oelem g r sz i off b n cap h => intro g' hg e; simp [V.within] at e; exact .oelem _ _ _ _ _ _ _ _ (by rw [hg r e]; exact h)
  | osl g r sz i off b n cap h => intro g' hg e; simp [V.within] at e; exact .osl _ _ _ _ _ _ _ _ (by rw [hg r e]; exact h)
  | fn g f cs vs hl h ih => intro g' hg e; simp only [V.within] at e; exact .fn _ _ _ _ hl fun i hi => ih i hi hg (V.withinAll_get e)
  | lit => intro _ _ _; exact .lit _ _
  | abool g p b h => intro _ _ _; exact .abool _ p b h
  | mp g n kf vf b es hs ho hn hb hk hv => intro _ _ _; exact .mp _ n kf vf b es hs ho hn hb hk hv
  | opt g c v x h h0 ih => intro g' hg e; simp only [V.within] at e; exact .opt _ _ _ _ (fun hc => ih hc hg e) h0

def Blk.within (ids : List Nat) : Blk → Bool
  | .cells _ cs => V.withinAll ids cs
  | .rows .. => true
  | .iter .. => true
  | .siter .. => true
  | .mapB .. => true
  | .yld o _ => (yoIds o).all ids.contains
def Heap.within (ids : List Nat) : Heap → Bool
  | [] => true
  | (_, b) :: h => b.within ids && Heap.within ids h
theorem Heap.within_get {ids : List Nat} : ∀ {h : Heap} {k : Nat} {b : Blk}, Heap.within ids h = true → h.get k = some b → b.within ids = true
  | [], _, _, _, hg => by simp [Heap.get] at hg
  | (a, c) :: h, k, b, hf, hg => by
    simp only [Heap.within, Bool.and_eq_true] at hf
    simp only [Heap.get] at hg
    split at hg
    · cases hg; exact hf.1
    · exact Heap.within_get hf.2 hg
def Blk.Flat : Blk → Prop
  | .cells _ cs => V.flatAll cs = true
  | .rows _ sz n f => ∀ i j, i < n → j < sz → (f i j).flat = true
  | .iter .. => False
  | .siter .. => True
  | .mapB n kf vf => ∀ i, i < n → (kf i).flat = true ∧ (vf i).flat = true
  | .yld o _ => o = none
def Heap.Flat : Heap → Prop
  | [] => True
  | (_, b) :: h => b.Flat ∧ Heap.Flat h
theorem Heap.Flat_get : ∀ {h : Heap} {k : Nat} {b : Blk}, Heap.Flat h → h.get k = some b → b.Flat
  | [], _, _, _, hg => by simp [Heap.get] at hg
  | (a, c) :: h, k, b, hf, hg => by
    simp only [Heap.get] at hg
    split at hg
    · cases hg; exact hf.1
    · exact Heap.Flat_get hf.2 hg

theorem Heap.get_append (h1 h2 : Heap) (k : Nat) : Heap.get (h1 ++ h2) k = match h1.get k with | some b => some b | none => h2.get k := by
  induction h1 with
  | nil => rfl
  | cons p h ih =>
    obtain ⟨a, b⟩ := p
    simp only [List.cons_append, Heap.get]
    split
    · rfl
    · exact ih
theorem Heap.get_mem {h : Heap} {k : Nat} {b : Blk} (hk : h.get k = some b) : k ∈ h.map (·.1) := by
  induction h with
  | nil => simp [Heap.get] at hk
  | cons p h ih =>
    obtain ⟨a, c⟩ := p
    simp only [Heap.get] at hk
    simp only [List.map_cons, List.mem_cons]
    split at hk
    · rename_i ha; exact .inl ha.symm
    · exact .inr (ih hk)
theorem Heap.mem_get {h : Heap} {k : Nat} (hk : k ∈ h.map (·.1)) : ∃ b, h.get k = some b := by
  induction h with
  | nil => simp at hk
  | cons p h ih =>
    obtain ⟨a, c⟩ := p
    simp only [List.map_cons, List.mem_cons] at hk
    simp only [Heap.get]
    split
    · exact ⟨c, rfl⟩
    · rename_i hne
      rcases hk with rfl | hk
      · exact absurd rfl hne
      · exact ih hk

def dels (ks : List Nat) (h : Heap) : Heap := h.filter fun p => !ks.contains p.1
theorem get_dels (ks : List Nat) (k : Nat) : ∀ h : Heap, Heap.get (dels ks h) k = if k ∈ ks then none else h.get k
  | [] => by simp [dels, Heap.get]
  | (a, b) :: h => by
    have ih := get_dels ks k h
    unfold dels at ih ⊢
    by_cases ha : a ∈ ks
    · have : ks.contains a = true := by simpa using ha
      simp only [List.filter_cons, this, Bool.not_true, Bool.false_eq_true, if_false, ih, Heap.get]
      by_cases hk : k ∈ ks
      · simp [hk]
      · have : a ≠ k := fun e => hk (e ▸ ha)
        simp [hk, this]
    · have : ks.contains a = false := by simpa using ha
      simp only [List.filter_cons, this, Bool.not_false, if_true, Heap.get, ih]
      by_cases hk : a = k
      · subst hk; simp [ha]
      · simp [hk]
def tdrops (ks : List Nat) (t : List (Nat × V)) : List (Nat × V) := ks.foldr tdrop t
def hdrops (ks : List Nat) (h : Heap) : Heap := ks.foldr hdrop h

/-- A value is lent: an own row reads as an immutable slice for the time of the call. -/
def lendV (h : Heap) : List Nat → V → V
  | [], v => v
  | r :: L, v => match h.get r with
    | some (.rows _ sz n f) => lendV h L (V.frz r sz n f v)
    | _ => lendV h L v

theorem Rel.lend {z : Start} {St : Nat → Prop} {g : Gh} {h : Heap} {w : World} (hW : WSim z St g h w) {St' : Nat → Prop} (hS : ∀ k, St k → St' k) : ∀ (L : List Nat),
    (∀ r, r ∈ L → ∀ b v k, h.get r = some b → g r = some v → blockOf v = some k → St' k) → ∀ {v : V} {x : Value}, Rel St' w g v x → Rel St' w g (lendV h L v) x
  | [], _, v, x, hr => hr
  | r :: L, hL, v, x, hr => by
    simp only [lendV]
    split
    · rename_i e sz n f hh
      refine Rel.lend hW hS L (fun q hq => hL q (List.mem_cons_of_mem _ hq)) ?_
      obtain ⟨u, hgu, xs, ho, hrr, h1⟩ := hW.ok r _ hh
      refine Rel.frz (fun _ h => h) ?_ hr hgu
      rcases ho.2 with ⟨rfl, hn⟩ | ⟨b, cap, cur, rfl, _, hb, hncap, hcapm, hsz, htake⟩
      · subst hn; exact .arr0 _ _ _
      · refine .arr _ sz n f b 0 cap (fun i j => xs.getD (i * sz + j) undef) hncap (Nat.le_trans hncap hcapm) (fun _ _ => hL r (List.mem_cons_self ..) _ _ b hh hgu rfl) (fun i j hi hj => ?_) (fun i j hi hj => ?_) (fun i j hi hj => (hrr i j hi hj).mono hS (fun _ _ => rfl))
        · rw [Nat.zero_add]; exact ownsRow_cells ho rfl _ (idx_lt hi hj)
        · have hq := idx_lt hi hj
          refine h1 _ ?_
          have : i * sz + j < xs.length := by rw [ho.1]; exact hq
          rw [List.getD_eq_getElem?_getD, List.getElem?_eq_getElem this]
          exact List.getElem_mem this
    · exact Rel.lend hW hS L (fun q hq => hL q (List.mem_cons_of_mem _ hq)) hr

theorem TSim.drops {St : Nat → Prop} {w : World} {N : Nat} {a : Act} : ∀ (ks : List Nat) {g g' : Gh} {t : List (Nat × V)}, TSim St w g N t a → (∀ k, k ∉ ks → g' k = g k) → TSim St w g' N (tdrops ks t) a
  | [], g, g', t, h, hg => by
    have : g' = g := funext fun k => hg k (by simp)
    rw [this]; exact h
  | d :: ks, g, g', t, h, hg => by
    let g1 : Gh := fun k => if k ∈ ks then g' k else g k
    have h1 := TSim.drops ks (g' := g1) h (fun k hk => by simp [g1, hk])
    refine h1.drop (w' := w) (fun _ _ => rfl) (d := d) fun k hk => ?_
    by_cases hks : k ∈ ks
    · simp [g1, hks]
    · rw [hg k (by simp [hk, hks])]; simp [g1, hks]

theorem BlkOk.ghost {St : Nat → Prop} {w : World} {g g' : Gh} {v : Value} {b : Blk} (h : BlkOk St w g v b) {ids : List Nat} (hg : ∀ k, k ∈ ids → g' k = g k) (hb : b.within ids = true) : BlkOk St w g' v b := by
  cases b with
  | rows => exact h
  | iter => exact h
  | siter => exact h
  | mapB => exact h
  | yld o k =>
    obtain ⟨l, r, hv, hh, hy⟩ := h
    refine ⟨l, r, hv, hh, hy.mono (fun _ h => h) (fun _ _ => rfl) fun i hi => hg i ?_⟩
    simpa using List.all_eq_true.1 hb i hi
  | cells t cs =>
    obtain ⟨b, vals, rfl, h2, hl, hr, h1⟩ := h
    exact ⟨b, vals, rfl, h2, hl, fun i hi => (hr i hi).within hg (V.withinAll_get hb), h1⟩
theorem BlkOk.dropG {St : Nat → Prop} {w : World} {g g' : Gh} {v : Value} {b : Blk} {d : Nat} (h : BlkOk St w g v b) (hg : ∀ k, k ≠ d → g' k = g k) : BlkOk St w g' v (b.drop d) := by
  cases b with
  | rows => exact h
  | iter => exact h
  | siter => exact h
  | mapB => exact h
  | yld o k =>
    obtain ⟨l, r, hv, hh, hy⟩ := h
    refine ⟨l, r, hv, hh, ?_⟩
    unfold yoCut
    split
    · trivial
    · rename_i hc; exact hy.mono (fun _ h => h) (fun _ _ => rfl) fun i hi => hg i (by rintro rfl; exact hc (by simpa using hi))
  | cells t cs =>
    obtain ⟨b, vals, rfl, h2, hl, hr, h1⟩ := h
    refine ⟨b, vals, rfl, h2, by simpa using hl, fun i hi => ?_, fun i hi => h1 i (by simpa using hi)⟩
    have hi' : i < cs.length := by simpa using hi
    have e : (cs.map fun v => if v.fresh d then v else .any).getD i .any = if (cs.getD i .any).fresh d then cs.getD i .any else .any := by
      simp [List.getD_eq_getElem?_getD, hi']
    rw [e]
    split
    · rename_i hf; exact (hr i hi').rebind hg hf
    · exact .any _ _
theorem drops_ok {St : Nat → Prop} {w : World} : ∀ (ks : List Nat) {g g' : Gh} {h : Heap} {r : Nat} {b : Blk}, (hdrops ks h).get r = some b → (∀ k, k ∉ ks → g' k = g k) →
    ∃ b0, h.get r = some b0 ∧ ∀ v, BlkOk St w g v b0 → BlkOk St w g' v b
  | [], g, g', h, r, b, hb, hg => by
    have : g' = g := funext fun k => hg k (by simp)
    exact ⟨b, hb, fun v hv => by rw [this]; exact hv⟩
  | d :: ks, g, g', h, r, b, hb, hg => by
    simp only [hdrops, List.foldr_cons] at hb
    rw [get_hdrop, Option.map_eq_some_iff] at hb
    obtain ⟨b1, hb1, rfl⟩ := hb
    let g1 : Gh := fun k => if k ∈ ks then g' k else g k
    obtain ⟨b0, h0, hk⟩ := drops_ok (St := St) (w := w) ks (g := g) (g' := g1) hb1 (fun k hk => by simp [g1, hk])
    refine ⟨b0, h0, fun v hv => (hk v hv).dropG fun k hkd => ?_⟩
    by_cases hks : k ∈ ks
    · simp [g1, hks]
    · rw [hg k (by simp [hkd, hks])]; simp [g1, hks]

/-- A function with a Go body, called as any. -/
def callable (P : Program) (f : FuncId) : Bool := match P.funcs[f]? with
  | some fn => fn.name != "runtime.NumGoroutine" && fn.body.isSome
  | none => false

def VLes : List V → List V → Prop
  | [], [] => True
  | v :: l, v' :: l' => VLe v v' ∧ VLes l l'
  | _, _ => False
theorem VLes.len : ∀ {l l' : List V}, VLes l l' → l.length = l'.length
  | [], [], _ => rfl
  | [], _ :: _, h => h.elim
  | _ :: _, [], h => h.elim
  | _ :: l, _ :: l', h => by simp [VLes.len h.2]
theorem VLes.get : ∀ {l l' : List V}, VLes l l' → ∀ i, VLe (l.getD i .any) (l'.getD i .any)
  | [], [], _, i => by simpa using VLe.refl _
  | [], _ :: _, h, _ => h.elim
  | _ :: _, [], h, _ => h.elim
  | v :: l, v' :: l', h, 0 => by simpa using h.1
  | v :: l, v' :: l', h, i + 1 => by simpa using VLes.get h.2 i

end Go.Abs
namespace Go.Abs
open Go

theorem arun_drop {P : Program} {W : List Nat} {ops : Array Oper} : ∀ (n : Nat) {l l' : List Oper} {s s' : S} {φ : Prop}, arun P W ops n l s = some (l', s', φ) → l' = l.drop n
  | 0, l, l', s, s', φ, h => by simp only [arun] at h; cases h; rfl
  | n + 1, [], l', s, s', φ, h => by simp only [arun] at h; cases h; simp
  | n + 1, o :: l, l', s, s', φ, h => by
    simp only [arun] at h
    split at h
    case h_2 => cases h
    split at h
    case h_2 => cases h
    rename_i hr
    cases h
    simpa using arun_drop n hr

def chunkF (P : Program) (W : List Nat) (ops : Array Oper) (n : Nat) (ds rs : List Nat) (l : List Oper) (s : S) : Option (S × Prop) :=
  match arun P W ops n l s with
  | some (_, s', φ) => some (proj s' ds rs, φ)
  | none => none
/-- 'n' operations of a region; of the state behind them the temporaries 'ds' and the own blocks 'rs' are kept. -/
theorem AOps.some {P : Program} (W : List Nat) {ops : Array Oper} {Q : Exit → S → Prop} (n : Nat) (ds rs : List Nat) {l : List Oper} {s : S} (s' : S) (φ : Prop) (h : chunkF P W ops n ds rs l s = some (s', φ)) (hφ : φ)
    (hK : AOps P ops Q (l.drop n) s') : AOps P ops Q l s := by
  unfold chunkF at h
  split at h
  case h_2 => cases h
  rename_i l1 s1 φ1 hr
  cases h
  rw [← arun_drop n hr] at hK
  exact arun_wp n hr hφ (.le (.proj s1 ds rs) hK)
theorem AWp.all {P : Program} (W : List Nat) {Q : Exit → S → Prop} {id : Nat} (ds rs : List Nat) {l : List Oper} {s : S} (s' : S) (φ : Prop) (h : chunkF P W l.toArray l.length ds rs l s = some (s', φ)) (hφ : φ)
    (hK : Q .normal s') : AWp P (.region id l.toArray false) Q s :=
  .region (.some W l.length ds rs s' φ h hφ (by rw [List.drop_length]; exact .nil hK))

theorem thenQ_normal {N : S → Prop} {Q : Exit → S → Prop} {s : S} (h : N s) : thenQ N Q .normal s := h
theorem thenQ_exit {N : S → Prop} {Q : Exit → S → Prop} {s : S} {id : Nat} (h : Q (.exit id) s) : thenQ N Q (.exit id) s := h
theorem thenQ_ret {N : S → Prop} {Q : Exit → S → Prop} {s : S} (h : Q .ret s) : thenQ N Q .ret s := h
theorem blockQ_normal {id : Nat} {Q : Exit → S → Prop} {s : S} (h : Q .normal s) : blockQ id Q .normal s := h
theorem blockQ_ret {id : Nat} {Q : Exit → S → Prop} {s : S} (h : Q .ret s) : blockQ id Q .ret s := h
theorem blockQ_same {id : Nat} {Q : Exit → S → Prop} {s : S} (h : Q .normal s) : blockQ id Q (.exit id) s := by simpa [blockQ] using h
theorem blockQ_other {id id' : Nat} {Q : Exit → S → Prop} {s : S} (hne : id' ≠ id) (h : Q (.exit id') s) : blockQ id Q (.exit id') s := by simpa [blockQ, hne] using h

theorem bodyQ_ret {P : Program} {fn : Func} {b : List Nat} {R : V → Heap → Prop} {s : S} (v : V) (hv : resV P fn s = some v) (hR : R v s.h) (hb : s.b = b) : bodyQ P fn b R .ret s := ⟨v, hv, hR, hb⟩
theorem bodyQ_normal {P : Program} {fn : Func} {b : List Nat} {R : V → Heap → Prop} {s : S} (v : V) (hv : resV P fn s = some v) (hR : R v s.h) (hb : s.b = b) : bodyQ P fn b R .normal s := ⟨s, fun _ _ _ h => h, v, hv, hR, hb⟩
theorem bodyQ_le {P : Program} {fn : Func} {b : List Nat} {R : V → Heap → Prop} {s s' : S} (h : Le s s') (h' : bodyQ P fn b R .normal s') : bodyQ P fn b R .normal s := h'.elim fun s2 h2 => ⟨s2, Le.trans h h2.1, h2.2⟩

/-! ### Lists as rows -/
/-- Element i of 'l' has the cells 'enc l[i]'. -/
def encF {α : Type} (enc : α → List V) (d : α) (l : List α) : Nat → Nat → V := fun i j => (enc (l.getD i d)).getD j .any
/-- A slice that reads as the list 'l'. -/
def vL {α : Type} (sz : Nat) (enc : α → List V) (d : α) (l : List α) : V := .arr sz l.length (encF enc d l)
/-- An own row that holds the list 'l'. -/
def bL {α : Type} (e : TypeId) (sz : Nat) (enc : α → List V) (d : α) (l : List α) : Blk := .rows e sz l.length (encF enc d l)

section
variable {α : Type} {e : TypeId} {sz : Nat} {enc : α → List V} {d : α}
theorem BLe.one {x : α} {cs : List V} (h : cs = enc x) : BLe (.rows e sz (0 + 1) (lstF sz cs)) (bL e sz enc d [x]) := by
  subst h
  refine .rows_eq (by simp) fun i j hi hj => ?_
  obtain rfl : i = 0 := by omega
  simp [encF, lstF, List.getD_eq_getElem?_getD]
theorem BLe.app {l m : List α} : BLe (.rows e sz (l.length + m.length) (appF l.length (encF enc d l) (encF enc d m))) (bL e sz enc d (l ++ m)) := by
  refine .rows_eq (by simp) fun i j hi hj => ?_
  unfold appF encF
  by_cases h : i < l.length
  · rw [if_pos h]; simp [List.getD_eq_getElem?_getD, List.getElem?_append_left h]
  · rw [if_neg h]; simp [List.getD_eq_getElem?_getD, List.getElem?_append_right (Nat.le_of_not_lt h)]
theorem BLe.app0 {m : List α} : BLe (.rows e sz (0 + m.length) (encF enc d m)) (bL e sz enc d m) := .rows_eq (by simp) fun _ _ _ _ => rfl
theorem BLe.empty {f : Nat → Nat → V} : BLe (.rows e sz 0 f) (bL e sz enc d []) := .rows_eq rfl fun i _ hi => by omega
theorem BLe.set {l : List α} {x : α} {i off : Nat} {cs : List V} (_hi : i < l.length) (h : ∀ j, j < sz → (if off ≤ j ∧ j < off + cs.length then cs.getD (j - off) .any else (enc (l.getD i d)).getD j .any) = (enc x).getD j .any) :
    BLe (.rows e sz l.length (updF (encF enc d l) i off cs)) (bL e sz enc d (l.set i x)) := by
  refine .rows_eq (by simp) fun i' j hi' hj => ?_
  unfold updF encF
  by_cases hii : i' = i
  · subst hii
    have := h j hj
    simp only [true_and]
    rw [this]
    simp [List.getD_eq_getElem?_getD, hi']
  · rw [if_neg (fun h => hii h.1)]
    simp [List.getD_eq_getElem?_getD, List.getElem?_set_ne (Ne.symm hii)]
end
end Go.Abs
