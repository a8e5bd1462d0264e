/- More rules in the form in which a program prints them. -/
import Derived.Test.YtmcmhjdmilgoeaaGreatDoorAbsQ
namespace Go.Abs
open Go

theorem VLe.int {k : IntKind} {a b : Int} (h : a = b) : VLe (.int k a) (.int k b) := .of_eq (by rw [h])
theorem VLe.str {a b : List UInt8} (h : a = b) : VLe (.str a) (.str b) := .of_eq (by rw [h])
theorem VLe.bool {a b : Bool} (h : a = b) : VLe (.bool a) (.bool b) := .of_eq (by rw [h])
theorem VLe.b16 {a b : BitVec 16} (h : a = b) : VLe (.b16 a) (.b16 b) := .of_eq (by rw [h])
theorem BLe.cellsL {t : TypeId} {cs cs' : List V} (h : VLes cs cs') : BLe (.cells t cs) (.cells t cs') := .cells h.len fun i _ => h.get i
theorem VLe.aggs {cs cs' : List V} (h : VLes cs cs') : VLe (.agg cs) (.agg cs') := .agg h.len fun i _ => h.get i
theorem VLe.tups {cs cs' : List V} (h : VLes cs cs') : VLe (.tup cs) (.tup cs') := by
  rintro St w g x hx
  obtain ⟨vs, rfl, hl, hr⟩ := hx.tup_inv
  exact .tup _ _ _ (hl.trans h.len) fun i hi => h.get i _ _ _ _ (hr i (by rw [h.len]; exact hi))
theorem VLe.opt {c : Bool} {v v' : V} (h : VLe v v') : VLe (.opt c v) (.opt c v') := by
  rintro St w g x hx
  cases hx with
  | opt _ _ _ _ h1 h0 => exact .opt _ _ _ _ (fun hc => h _ _ _ _ (h1 hc)) h0
theorem VLe.unopt {c : Bool} {v v' : V} (hc : c = true) (h : VLe v v') : VLe (.opt c v) v' := by
  rintro St w g x hx
  exact h _ _ _ _ (hx.opt_inv hc)

section
variable {α : Type} {sz : Nat} {enc : α → List V} {d : α} {e : TypeId}
theorem VLe.L {l l' : List α} (h : l = l') : VLe (vL sz enc d l) (vL sz enc d l') := .of_eq (by rw [h])
theorem VLe.nilL : VLe .nils (vL sz enc d []) := .nils
theorem VLe.dropL {l : List α} {k : Nat} : VLe (.arr sz (l.length - k) (fun i j => encF enc d l (i + k) j)) (vL sz enc d (l.drop k)) :=
  .arr_eq (by simp) fun i j _ _ => by simp [encF, List.getD_eq_getElem?_getD, List.getElem?_drop, Nat.add_comm]
theorem VLe.takeL {l : List α} {k : Nat} (h : k ≤ l.length) : VLe (.arr sz k (encF enc d l)) (vL sz enc d (l.take k)) :=
  .arr_eq (by simp; omega) fun i j hi _ => by simp [encF, List.getD_eq_getElem?_getD, hi]
theorem VLe.subL {l : List α} {k m : Nat} (h : m ≤ l.length) : VLe (.arr sz (m - k) (fun i j => encF enc d l (i + k) j)) (vL sz enc d ((l.take m).drop k)) :=
  .arr_eq (by simp; omega) fun i j hi _ => by
    have : k + i < m := by omega
    simp [encF, List.getD_eq_getElem?_getD, List.getElem?_drop, Nat.add_comm i k, this]
theorem VLe.allL {l : List α} : VLe (.arr sz l.length (encF enc d l)) (vL sz enc d l) := .refl _

theorem BLe.L {l l' : List α} (h : l = l') : BLe (bL e sz enc d l) (bL e sz enc d l') := by rw [h]; exact .refl _
theorem flat_get {xs : List α} (hl : ∀ x, (enc x).length = sz) : ∀ i j, i < xs.length → j < sz → (xs.flatMap enc).getD (i * sz + j) .any = (enc (xs.getD i d)).getD j .any := by
  induction xs with
  | nil => intro i j hi; simp at hi
  | cons x xs ih =>
    intro i j hi hj
    rw [List.flatMap_cons]
    cases i with
    | zero => simp only [Nat.zero_mul, Nat.zero_add, List.getD_cons_zero]; rw [List.getD_eq_getElem?_getD, List.getElem?_append_left (by rw [hl]; exact hj), ← List.getD_eq_getElem?_getD]
    | succ i =>
      have : (i + 1) * sz + j = sz + (i * sz + j) := by rw [Nat.succ_mul]; omega
      rw [this, List.getD_eq_getElem?_getD, List.getElem?_append_right (by rw [hl]; omega), hl, Nat.add_sub_cancel_left, ← List.getD_eq_getElem?_getD, ih i j (by simpa using hi) hj, List.getD_cons_succ]
theorem BLe.lst (xs : List α) {n : Nat} {cs : List V} (hn : n = xs.length) (h : cs = xs.flatMap enc) (hl : ∀ x, (enc x).length = sz) : BLe (.rows e sz n (lstF sz cs)) (bL e sz enc d xs) := by
  subst h
  refine .rows_eq hn fun i j hi hj => ?_
  unfold lstF encF
  exact flat_get hl i j (by omega) hj
theorem BLe.rep (x : α) {n : Nat} {cs : List V} (h : cs = enc x) : BLe (.rows e sz n (repF cs)) (bL e sz enc d (List.replicate n x)) := by
  subst h
  refine .rows_eq (by simp) fun i j hi _ => ?_
  unfold repF encF
  simp [List.getD_eq_getElem?_getD, hi]
end

section
variable {P : Program} {Q : Exit → S → Prop} {s : S}
theorem AWp.condI {c : Operand} {x y : Code} (b : Bool) (p : Prop) (hc : raw s.t c = .bool b) (hi : b = true ↔ p) (h1 : p → AWp P x Q s) (h2 : ¬ p → AWp P y Q s) : AWp P (.cond c x y) Q s :=
  .cond hc (fun h => h1 (hi.1 h)) fun h => h2 fun hp => by rw [hi.2 hp] at h; cases h
theorem AWp.condO {c : Operand} {x y : Code} (g b : Bool) (p : Prop) (hg : g = true) (hc : raw s.t c = .opt g (.bool b)) (hi : b = true ↔ p) (h1 : p → AWp P x Q s) (h2 : ¬ p → AWp P y Q s) : AWp P (.cond c x y) Q s := fun z a w hs => by
  obtain ⟨St, gh, hW, hT, hKp⟩ := hs
  have := rel_raw hT c
  rw [hc] at this
  have := this.opt_inv hg
  exact wpIn_cond_split this.bool_inv (fun hb => h1 (hi.1 hb) z a w ⟨St, gh, hW, hT, hKp⟩) (fun hb => h2 (fun hp => by rw [hi.2 hp] at hb; cases hb) z a w ⟨St, gh, hW, hT, hKp⟩)
theorem AWp.condAb {c : Operand} {x y : Code} (p : Bool → Prop) (hc : raw s.t c = .abool p) (h1 : p true → AWp P x Q s) (h2 : p false → AWp P y Q s) : AWp P (.cond c x y) Q s := fun z a w hs => by
  obtain ⟨St, gh, hW, hT, hKp⟩ := hs
  have := rel_raw hT c
  rw [hc] at this
  generalize hv : a.eval c = v at this
  cases this with
  | abool _ _ b h =>
    exact wpIn_cond_split hv (fun hb => h1 (hb ▸ h) z a w ⟨St, gh, hW, hT, hKp⟩) (fun hb => h2 (hb ▸ h) z a w ⟨St, gh, hW, hT, hKp⟩)
theorem AWp.loopL {c : Code} {α : Type} (inv : α → S) (pre : α → Prop) (μ : α → Nat) (x : α) (hs : Le s (inv x)) (hx : pre x)
    (round : ∀ x, pre x → AWp P c (thenQ (fun s' => ∃ y, Le s' (inv y) ∧ pre y ∧ μ y < μ x) Q) (inv x)) : AWp P (.loop c) Q s := by
  refine .le hs ?_
  intro z a w hs
  refine wpIn_loop_ghost (fun n a w => ∃ x, pre x ∧ μ x = n ∧ Sim z (inv x) a w) (μ x) ⟨x, hx, rfl, hs⟩ ?_
  rintro n a w ⟨x, hx, rfl, hs⟩
  refine wpIn_mono (round x hx z a w hs) fun e a' w' ⟨s', hq, hs'⟩ => ?_
  cases e with
  | normal =>
    obtain ⟨y, hle, hy, hlt⟩ := hq
    exact ⟨μ y, hlt, y, hy, rfl, hle z a' w' hs'⟩
  | _ => exact ⟨s', hq, hs'⟩
/-- Two ways come together. -/
def joinQ {α : Type} (inv : α → S) (pre : α → Prop) (Q : Exit → S → Prop) : Exit → S → Prop
  | .normal, s => ∃ y, Le s (inv y) ∧ pre y
  | e, s => Q e s
theorem AWp.join {x y : Code} {α : Type} (inv : α → S) (pre : α → Prop) (h : AWp P x (joinQ inv pre Q) s) (h2 : ∀ v, pre v → AWp P y Q (inv v)) : AWp P (.seq x y) Q s := fun z a w hs =>
  wpIn_seq (wpIn_mono (h z a w hs) fun e a' w' ⟨s', hq, hs'⟩ => by
    cases e with
    | normal =>
      obtain ⟨v, hle, hp⟩ := hq
      exact h2 v hp z a' w' (hle z a' w' hs')
    | _ => exact ⟨s', hq, hs'⟩)
theorem joinQ_normal {α : Type} {inv : α → S} {pre : α → Prop} {Q : Exit → S → Prop} (y : α) (h : Le s (inv y)) (hp : pre y) : joinQ inv pre Q .normal s := ⟨y, h, hp⟩
theorem joinQ_exit {α : Type} {inv : α → S} {pre : α → Prop} {Q : Exit → S → Prop} {id : Nat} (h : Q (.exit id) s) : joinQ inv pre Q (.exit id) s := h
theorem joinQ_ret {α : Type} {inv : α → S} {pre : α → Prop} {Q : Exit → S → Prop} (h : Q .ret s) : joinQ inv pre Q .ret s := h
theorem loopQ_normal {α : Type} {inv : α → S} {pre : α → Prop} {m : Nat} {μ : α → Nat} {Q : Exit → S → Prop} (y : α) (h : Le s (inv y)) (hp : pre y) (hm : μ y < m) : thenQ (fun s' => ∃ y, Le s' (inv y) ∧ pre y ∧ μ y < m) Q .normal s := ⟨y, h, hp, hm⟩
end

/-- The contract in its plain form. -/
def Spec1 (P : Program) (f : FuncId) (gs : List (Nat × V)) (bk : List Nat) (h0 : Heap) (args : List V) (r : V) (h1 : Heap) : Prop := Spec P f gs bk h0 args (fun v h => v = r ∧ h = h1)
theorem Spec1.body {P : Program} {f : FuncId} {fn : Func} {c : Code} {N : Nat} {h0 : Heap} {args : List V} {r : V} {h1 : Heap} (o : Nat) (gs : List (Nat × V)) (bk : List Nat) (hf : P.funcs[f]? = some fn) (hb : fn.body = some c) (hN : fn.ntmps = N) (hle : Nat.ble args.length N = true) (hG : Nat.ble N 1000000 = true)
    (h : AWp P c (bodyQ P fn bk (fun v h => v = r ∧ h = h1)) ⟨N, initT 0 args ++ globT gs, h0, bk, o⟩) : Spec1 P f gs bk h0 args r h1 := Spec.body o gs bk hf hb hN (Nat.le_of_ble_eq_true hle) (Nat.le_of_ble_eq_true hG) h
end Go.Abs
