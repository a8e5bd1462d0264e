/- Rules in the form in which a program prints them; lists as rows. -/
import Derived.Test.YtmcmhjdmilgoeaaGreatDoorAbsM
import Derived.KernelRfl
namespace Go.Abs
open Go

theorem arun_drop {P : Program} {W : List Nat} {ops : Array Oper} : ∀ (n : Nat) {l l' : List Oper} {s s' : S} {φ : Prop}, arun P W ops n l s = some (l', s', φ) → l' = l.drop n
  | 0, l, l', s, s', φ, h => by simp only [arun] at h; cases h; rfl
  | n + 1, [], l', s, s', φ, h => by simp only [arun] at h; cases h; simp
  | n + 1, o :: l, l', s, s', φ, h => by
    simp only [arun] at h
    split at h
    case h_2 => cases h
    split at h
    case h_2 => cases h
    rename_i hr
    cases h
    simpa using arun_drop n hr

def chunkF (P : Program) (W : List Nat) (ops : Array Oper) (n : Nat) (ds rs : List Nat) (l : List Oper) (s : S) : Option (S × Prop) :=
  match arun P W ops n l s with
  | some (_, s', φ) => some (proj s' ds rs, φ)
  | none => none
/-- 'n' operations of a region; of the state behind them the temporaries 'ds' and the own blocks 'rs' are kept. -/
theorem AOps.some {P : Program} (W : List Nat) {ops : Array Oper} {Q : Exit → S → Prop} (n : Nat) (ds rs : List Nat) {l : List Oper} {s : S} (s' : S) (φ : Prop) (h : chunkF P W ops n ds rs l s = some (s', φ)) (hφ : φ)
    (hK : AOps P ops Q (l.drop n) s') : AOps P ops Q l s := by
  unfold chunkF at h
  split at h
  case h_2 => cases h
  rename_i l1 s1 φ1 hr
  cases h
  rw [← arun_drop n hr] at hK
  exact arun_wp n hr hφ (.le (.proj s1 ds rs) hK)
theorem AWp.all {P : Program} (W : List Nat) {Q : Exit → S → Prop} {id : Nat} (ds rs : List Nat) {l : List Oper} {s : S} (s' : S) (φ : Prop) (h : chunkF P W l.toArray l.length ds rs l s = some (s', φ)) (hφ : φ)
    (hK : Q .normal s') : AWp P (.region id l.toArray false) Q s :=
  .region (.some W l.length ds rs s' φ h hφ (by rw [List.drop_length]; exact .nil hK))

theorem AWp.seqN {P : Program} {x y : Code} {Q : Exit → S → Prop} {s : S} (h : AWp P x (thenQ (AWp P y Q) Q) s) : AWp P (.seq x y) Q s := .seq h
theorem thenQ_normal {N : S → Prop} {Q : Exit → S → Prop} {s : S} (h : N s) : thenQ N Q .normal s := h
theorem thenQ_exit {N : S → Prop} {Q : Exit → S → Prop} {s : S} {id : Nat} (h : Q (.exit id) s) : thenQ N Q (.exit id) s := h
theorem thenQ_ret {N : S → Prop} {Q : Exit → S → Prop} {s : S} (h : Q .ret s) : thenQ N Q .ret s := h
theorem blockQ_normal {id : Nat} {Q : Exit → S → Prop} {s : S} (h : Q .normal s) : blockQ id Q .normal s := h
theorem blockQ_ret {id : Nat} {Q : Exit → S → Prop} {s : S} (h : Q .ret s) : blockQ id Q .ret s := h
theorem blockQ_same {id : Nat} {Q : Exit → S → Prop} {s : S} (h : Q .normal s) : blockQ id Q (.exit id) s := by simpa [blockQ] using h
theorem blockQ_other {id id' : Nat} {Q : Exit → S → Prop} {s : S} (hne : id' ≠ id) (h : Q (.exit id') s) : blockQ id Q (.exit id') s := by simpa [blockQ, hne] using h

theorem bodyQ_ret {P : Program} {fn : Func} {b : List Nat} {R : V → Heap → Prop} {s : S} (v : V) (hv : resV P fn s = some v) (hR : R v s.h) (hb : s.b = b) : bodyQ P fn b R .ret s := ⟨v, hv, hR, hb⟩
theorem bodyQ_normal {P : Program} {fn : Func} {b : List Nat} {R : V → Heap → Prop} {s : S} (v : V) (hv : resV P fn s = some v) (hR : R v s.h) (hb : s.b = b) : bodyQ P fn b R .normal s := ⟨s, fun _ _ _ h => h, v, hv, hR, hb⟩
theorem bodyQ_le {P : Program} {fn : Func} {b : List Nat} {R : V → Heap → Prop} {s s' : S} (h : Le s s') (h' : bodyQ P fn b R .normal s') : bodyQ P fn b R .normal s := h'.elim fun s2 h2 => ⟨s2, Le.trans h h2.1, h2.2⟩

/-! ### Lists as rows -/
/-- Element i of 'l' has the cells 'enc l[i]'. -/
def encF {α : Type} (enc : α → List V) (d : α) (l : List α) : Nat → Nat → V := fun i j => (enc (l.getD i d)).getD j .any
/-- A slice that reads as the list 'l'. -/
def vL {α : Type} (sz : Nat) (enc : α → List V) (d : α) (l : List α) : V := .arr sz l.length (encF enc d l)
/-- An own row that holds the list 'l'. -/
def bL {α : Type} (e : TypeId) (sz : Nat) (enc : α → List V) (d : α) (l : List α) : Blk := .rows e sz l.length (encF enc d l)

section
variable {α : Type} {e : TypeId} {sz : Nat} {enc : α → List V} {d : α}
theorem BLe.snoc {l : List α} {x : α} {cs : List V} (h : cs = enc x) : BLe (.rows e sz (l.length + 1) (appF l.length (encF enc d l) (lstF sz cs))) (bL e sz enc d (l ++ [x])) := by
  subst h
  refine .rows_eq (by simp) fun i j hi hj => ?_
  unfold appF encF lstF
  by_cases h : i < l.length
  · rw [if_pos h]; simp [List.getD_eq_getElem?_getD, List.getElem?_append_left h]
  · obtain rfl : i = l.length := by omega
    rw [if_neg h]
    simp [List.getD_eq_getElem?_getD]
theorem BLe.one {x : α} {cs : List V} (h : cs = enc x) : BLe (.rows e sz (0 + 1) (lstF sz cs)) (bL e sz enc d [x]) := by
  subst h
  refine .rows_eq (by simp) fun i j hi hj => ?_
  obtain rfl : i = 0 := by omega
  simp [encF, lstF, List.getD_eq_getElem?_getD]
theorem BLe.app {l m : List α} : BLe (.rows e sz (l.length + m.length) (appF l.length (encF enc d l) (encF enc d m))) (bL e sz enc d (l ++ m)) := by
  refine .rows_eq (by simp) fun i j hi hj => ?_
  unfold appF encF
  by_cases h : i < l.length
  · rw [if_pos h]; simp [List.getD_eq_getElem?_getD, List.getElem?_append_left h]
  · rw [if_neg h]; simp [List.getD_eq_getElem?_getD, List.getElem?_append_right (Nat.le_of_not_lt h)]
theorem BLe.app0 {m : List α} : BLe (.rows e sz (0 + m.length) (encF enc d m)) (bL e sz enc d m) := .rows_eq (by simp) fun _ _ _ _ => rfl
theorem BLe.empty {f : Nat → Nat → V} : BLe (.rows e sz 0 f) (bL e sz enc d []) := .rows_eq rfl fun i _ hi => by omega
theorem BLe.set {l : List α} {x : α} {i off : Nat} {cs : List V} (_hi : i < l.length) (h : ∀ j, j < sz → (if off ≤ j ∧ j < off + cs.length then cs.getD (j - off) .any else (enc (l.getD i d)).getD j .any) = (enc x).getD j .any) :
    BLe (.rows e sz l.length (updF (encF enc d l) i off cs)) (bL e sz enc d (l.set i x)) := by
  refine .rows_eq (by simp) fun i' j hi' hj => ?_
  unfold updF encF
  by_cases hii : i' = i
  · subst hii
    have := h j hj
    simp only [true_and]
    rw [this]
    simp [List.getD_eq_getElem?_getD, hi']
  · rw [if_neg (fun h => hii h.1)]
    simp [List.getD_eq_getElem?_getD, List.getElem?_set_ne (Ne.symm hii)]
end
end Go.Abs
