/- Part 14 of the proof: AbsM2, AbsR4, AbsM3. -/
import Derived.Test.YtjgboohpholnbaaDoorTpcotZ13
import Derived.DeepKeys3
namespace Go.Abs
open Go Go.MapKept

section
variable {P : Program} {kt : TypeId} {α : Type} [DecidableEq α] {ek : α → V}
end
section
variable {P : Program} {α β : Type} [DecidableEq α]
end
section
variable {P : Program} {α β : Type} [DecidableEq α]
/-- a map that is one's own, as a list of pairs -/
def bP (ek : α → V) (dk : α) (ev : β → V) (dv : β) (l : List (α × β)) : Blk := bM ek dk ev dv (l.map (·.1)) (l.map (·.2))
def hM (l : List (α × β)) (x : α) : Bool := l.any fun p => decide (x = p.1)
end
section
variable {P : Program} {α β : Type} [DecidableEq α]
end
section
variable {P : Program} {α β : Type} [DecidableEq α]
end
section
variable {P : Program} {α β : Type} [DecidableEq α]
end
theorem BLe.P {α β : Type} {ek : α → V} {dk : α} {ev : β → V} {dv : β} {l l' : List (α × β)} (h : l = l') : BLe (bP ek dk ev dv l) (bP ek dk ev dv l') := by rw [h]; exact .refl _
end Go.Abs
namespace Go.Abs
open Go
abbrev V.i (n : Int) : V := .int .i64 n
abbrev lZ {α : Type} (l : List α) : Int := ((l.length : Nat) : Int)
theorem idA (p : Prop) : p → p := fun h => h
theorem bqA (b w : Bool) : true = true → b = w → (b == w) = true := fun _ h => beq_iff_eq.2 h
section
variable {α : Type} {p q s t u : Prop} [Decidable p] [Decidable q] [Decidable s] [Decidable t] [Decidable u] {x : Option α} {r : α}
theorem ck2 (h : chk p (chk q x) = some r) : p ∧ q ∧ x = some r := by
  obtain ⟨a, h⟩ := chk_some h
  exact ⟨a, chk_some h⟩
theorem ck3 (h : chk p (chk q (chk s x)) = some r) : p ∧ q ∧ s ∧ x = some r := by
  obtain ⟨a, h⟩ := chk_some h
  exact ⟨a, ck2 h⟩
theorem ck4 (h : chk p (chk q (chk s (chk t x))) = some r) : p ∧ q ∧ s ∧ t ∧ x = some r := by
  obtain ⟨a, h⟩ := chk_some h
  exact ⟨a, ck3 h⟩
end
end Go.Abs
namespace Go.Abs
open Go
/-- the cells of an array box whose elements have one cell each -/
abbrev cA {α : Type} (f : α → V) (d : α) (n : Nat) (l : List α) : List V := (List.range n).map fun i => f (l.getD i d)
abbrev bA {α : Type} (e : TypeId) (f : α → V) (d : α) (n : Nat) (l : List α) : Blk := .cells e (cA f d n l)
theorem cA_get {α : Type} (f : α → V) (d : α) (n : Nat) (l : List α) (i : Nat) (h : i < n) : (cA f d n l).getD i .any = f (l.getD i d) := by
  simp [List.getD_eq_getElem?_getD, h]
theorem cA_len {α : Type} (f : α → V) (d : α) (n : Nat) (l : List α) : (cA f d n l).length = n := by simp
theorem loadA_spec {P : Program} {α : Type} {t : TypeId} (ha : aggT P t = some false) (hs : szOf P t = some 1) (x : Operand) (ty r : Nat) (e : TypeId) (f : α → V) (d : α) (N : Nat) (l : List α) (i : Nat) (hi : i < N) :
    OpSpec P (.load t x) ty [r] [(r, bA e f d N l)] [.ptr r i] (f (l.getD i d)) [(r, bA e f d N l)] := by
  rintro o ho _ z ρ hW hr
  obtain ⟨dst, op', ty0, pos, after, guard⟩ := o
  dsimp only at ho; subst ho
  have h0 := hr 0 (by simp)
  simp [Op.operands] at h0
  have hv : loadV P [(r, bA e f d N l)] t (.ptr r i) = some (f (l.getD i d), True) := by
    unfold loadV takeV
    rw [ha, hs]
    simp only [Heap.get, beq_self_eq_true, if_true]
    rw [if_pos (by rw [cA_len]; exact hi)]
    rw [cA_get f d N l i hi]
    rfl
  obtain ⟨y, h2, h3⟩ := run_loadV (fun q b hq => hW.ok q b hq) h0 hv trivial
  exact ⟨_, y, z.w, z.St, z.g, by simp [execOp, h2, Result.andThen], .inl rfl, hW, h3, fun q hq => rfl⟩
theorem storeA_spec {P : Program} {α : Type} {t : TypeId} (hs : szOf P t = some 1) (p x : Operand) (ty r : Nat) (e : TypeId) (f : α → V) (hf : ∀ a, (f a).isOne = true) (d : α) (N : Nat) (l : List α) (i : Nat) (y : α) (hi0 : i < N ∧ i < l.length) :
    OpSpec P (.store t p x) ty [r] [(r, bA e f d N l)] [.ptr r i, f y] .any [(r, bA e f d N (l.set i y))] := by
  rintro o ho _ z ρ hW hr
  obtain ⟨dst, op', ty0, pos, after, guard⟩ := o
  dsimp only at ho; subst ho
  have hi := hi0.1
  have h0 := hr 0 (by simp); have h1 := hr 1 (by simp)
  simp [Op.operands] at h0 h1
  have hval : (f y).isVal = true := by have := hf y; unfold V.isOne at this; simp only [Bool.and_eq_true] at this; exact this.1
  have hcl : (f y).cells = [f y] := by
    have := hf y
    unfold V.isOne at this
    revert this
    cases f y <;> simp [V.cells]
  have hdel : Heap.del [(r, bA e f d N l)] r = [] := by simp [Heap.del]
  obtain ⟨hlx, hrx⟩ := h1.cells hval
  obtain ⟨u, hgu, b, vals, rfl, hb, hl, hrv, hone⟩ := hW.ok r (bA e f d N l) (by simp [Heap.get])
  rw [hcl] at hlx hrx
  have hpe : ρ p = .pointer (some ⟨b, i, none⟩) := by
    generalize hp : ρ p = pv at h0
    cases h0 with
    | ptr _ _ _ b' hg => rw [hg] at hgu; cases hgu; rfl
  have hll : vals.size = N := by rw [cA_len] at hl; exact hl
  have hx1 : (ρ x).cells.size = 1 := by simpa using hlx
  have hone1 : ((ρ x).cells.getD 0 undef).oneCell' = true := (hrx 0 (by simp)).isOne (by simpa using hf y)
  have hrun := run_storeVar (P := P) (t := t) (o := i) (x := ρ x) (k := 1) hs hx1 hb (by omega) (fun j hj => by
    have : j = 0 := by omega
    subst this; exact hone1)
  have hnb : ¬ z.St b := (hW.ow r (bA e f d N l) _ (by simp [Heap.get]) hgu b rfl).1
  generalize hrow : (vals.toList.take i ++ (ρ x).cells.toList ++ vals.toList.drop (i + (ρ x).cells.toList.length)).toArray = row at hrun
  have hStw : ∀ k, z.St k → (z.w.setRow b row).heap[k]? = z.w.heap[k]? := fun k hk => setRow_other z.w b k _ (fun e => hnb (e ▸ hk))
  refine ⟨_, undef, z.w.setRow b row, z.St, z.g.set r (.pointer (some ⟨b, 0, none⟩)), ?_, .inr ⟨rfl, rfl⟩, ?_, .any _ _, fun q hq => by simp only [List.mem_singleton] at hq; subst hq; simp [Gh.set, hgu]⟩
  · simp only [execOp, hpe, Instr.storeAt, Instr.sureAddr, Sem.run_bind, Sem.run_pure, Result.andThen_ok, hrun]
  · rw [← hdel]
    refine hW.change (w' := z.w.setRow b row) (d := r) (v' := .pointer (some ⟨b, 0, none⟩)) (blk := bA e f d N (l.set i y)) (ro := some b) (h := [(r, bA e f d N l)]) (fun q hq => by cases hq; exact ⟨bA e f d N l, _, by simp [Heap.get], hgu, rfl⟩) rfl rfl rfl (by simp) (fun q _ hq => setRow_other z.w b q _ (fun e => hq (by rw [e]))) (.inr hgu) (fun q hq => .inl (by simpa [blockOf] using hq)) ?_
    have hset : ∀ j, row.getD j undef = if j = i then (ρ x).cells.getD 0 undef else vals.getD j undef := by
      intro j
      rw [← hrow]
      have hk' : (ρ x).cells.toList.length = 1 := by simpa using hx1
      have := splice_get vals.toList i (ρ x).cells.toList (by simp; omega) j
      rw [hk'] at this ⊢
      by_cases hj : j = i
      · subst hj; simpa [List.getD_eq_getElem?_getD] using this
      · have hn : ¬ (i ≤ j ∧ j < i + 1) := by omega
        rw [if_neg hj]
        rw [if_neg hn] at this
        simpa [List.getD_eq_getElem?_getD] using this
    have hg0 : ∀ j, j < N → (cA f d N (l.set i y)).getD j .any = if j = i then f y else (cA f d N l).getD j .any := by
      intro j hj
      rw [cA_get _ _ _ _ _ hj, cA_get _ _ _ _ _ hj]
      by_cases hji : j = i
      · subst hji; rw [if_pos rfl]; simp [List.getD_eq_getElem?_getD, hi0.2]
      · rw [if_neg hji]; simp [List.getD_eq_getElem?_getD, List.getElem?_set_ne (Ne.symm hji)]
    refine ⟨b, row, rfl, setRow_heap z.w b vals _ e _ hb, ?_, fun j hj => ?_, fun j hj => ?_⟩
    · rw [cA_len, ← hrow]; simp [hx1]; omega
    · rw [cA_len] at hj
      rw [hset, hg0 j hj, Gh.set_self hgu]
      split
      · exact (hrx 0 (by simp)).mono (fun _ h => h) hStw
      · exact (hrv j (by rw [cA_len]; exact hj)).mono (fun _ h => h) hStw
    · rw [cA_len] at hj
      rw [hset]
      split
      · exact hone1
      · exact hone j (by rw [cA_len]; exact hj)
theorem indexA_spec {P : Program} {t e : TypeId} {len : Nat} {kx : IntKind} (ht : P.underlying t = some (.array len e)) (hs : szOf P e = some 1) (x i : Operand) (ty r : Nat) (B : Blk) (n : Nat) (hn : n < len) : OpSpec P (.indexAddr t x i) ty [r] [(r, B)] [.ptr r 0, .int kx (n : Int)] (.ptr r n) [(r, B)] := by
  rintro o ho _ z ρ hW hr
  obtain ⟨dst, op', ty0, pos, after, guard⟩ := o
  dsimp only at ho; subst ho
  have h0 := hr 0 (by simp); have h1 := hr 1 (by simp)
  simp [Op.operands] at h0 h1
  have hv : indexAddrV P [] t (.ptr r 0) (.int kx (n : Int)) = some (.ptr r n, 0 ≤ (n : Int) ∧ (n : Int) < len) := by
    unfold indexAddrV
    rw [ht]
    simp only [hs, Int.toNat_natCast, Nat.mul_one, Nat.zero_add]
  obtain ⟨y, h2, h3⟩ := run_indexAddrV (fun q b hq => by simp [Heap.get] at hq) h0 h1 hv ⟨by omega, by omega⟩
  exact ⟨_, y, z.w, z.St, z.g, by simp [execOp, h2, Result.andThen], .inl rfl, hW, h3, fun q hq => rfl⟩
theorem indexAi_spec {P : Program} {t e : TypeId} {len : Nat} {kx : IntKind} (ht : P.underlying t = some (.array len e)) (hs : szOf P e = some 1) (x i : Operand) (ty r : Nat) (B : Blk) (n : Int) (hn : 0 ≤ n ∧ n < len) : OpSpec P (.indexAddr t x i) ty [r] [(r, B)] [.ptr r 0, .int kx n] (.ptr r n.toNat) [(r, B)] := by
  obtain ⟨m, rfl⟩ := Int.eq_ofNat_of_zero_le hn.1
  exact indexA_spec ht hs x i ty r B m (by omega)
theorem allocA_spec {P : Program} {α : Type} {t : TypeId} (f : α → V) (hf : ∀ a, (f a).isOne = true) (hfr : ∀ a k, (f a).fresh k = true) (d : α) (N : Nat) (l : List α) (hz : zeroV P t = some (.agg (cA f d N l))) (ty r : Nat) : OpSpec P (.alloc t) ty [] [] [] (.ptr r 0) [(r, bA t f d N l)] := by
  rintro o ho _ z ρ hW _
  obtain ⟨dst, op', ty0, pos, after, guard⟩ := o
  dsimp only at ho; subst ho
  obtain ⟨zv, hzr, _, hzrel⟩ := run_zeroV (P := P) (St := z.St) (w := z.w) (g := z.g) hz
  obtain ⟨hcl, hcr⟩ := hzrel.cells (by rfl)
  simp only [V.cells] at hcl hcr
  have hcl' : zv.cells.size = (cA f d N l).length := hcl
  have hStw : ∀ k, z.St k → (z.w.alloc (.cells zv.cells t)).heap[k]? = z.w.heap[k]? := fun k hk => by first | exact heap_alloc_old z.w _ k (hW.st1 k hk).1 | exact heap_alloc_old z.w _ (hW.st1 k hk).1
  refine ⟨_, .pointer (some ⟨z.w.heap.size, 0, none⟩), z.w.alloc (.cells zv.cells t), z.St, z.g.set r (.pointer (some ⟨z.w.heap.size, 0, none⟩)), by simp [execOp, Instr.alloc, hzr, newVar, newRow, run_newObj, Result.andThen], .inl rfl, ?_, .ptr _ _ _ z.w.heap.size (by simp [Gh.set]), fun q hq => by cases hq⟩
  refine hW.newObj (h := []) (d := r) rfl rfl ?_
  refine ⟨z.w.heap.size, zv.cells, rfl, heap_alloc_new z.w _, hcl', fun i hi => ?_, fun i hi => ?_⟩
  · have hi' : i < N := by rw [cA_len] at hi; exact hi
    refine Rel.mono (fun _ hk => hk) hStw ((hcr i hi).rebind (fun k hk => Gh.set_ne hk) ?_)
    rw [cA_get _ _ _ _ _ hi']
    exact hfr _ _
  · have hi' : i < N := by rw [cA_len] at hi; exact hi
    refine (hcr i hi).isOne ?_
    rw [cA_get _ _ _ _ _ hi']
    exact hf _
end Go.Abs
