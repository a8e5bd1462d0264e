/- A region's operations one after the other. -/
import Derived.Test.YtmcmhjdmilgoeaaGreatDoorAbsJ
import Derived.Sort.LoopGhostIn
import Derived.OrdersIn
import Derived.RangeFuncCalls
import Derived.RangeFuncRecord
namespace Go.Abs
open Go

/-! ### In whatever round -/
def WideR (ro : Option Nat) : Fence := { fn := fun _ => True, depth := none, alive := false, round := ro }
theorem callsR {ro : Option Nat} {n : Nat} {P : Program} {f : FuncId} {args : Array Value} {w : World} {R : Ending → World → Prop} (h : Calls P f args w R) : CallsIn (WideR ro) n P f args w R :=
  (callsIn_wide (n := n)).2 h
theorem rowsR {ro : Option Nat} {n : Nat} {P : Program} {row : String} {args : Array Value} {w : World} {R : Value → World → Prop} (h : Rows P row args w R) : RowsIn (WideR ro) n P row args w R :=
  fun c cs _ => let ⟨v, w', r, s⟩ := h c cs; ⟨v, w', r, stepsIn_wide.2 s⟩
theorem opUp {ro : Option Nat} {P : Program} {o : Oper} {a : Act} {w : World} {K : Act → World → Prop} {Q : Exit → Act → World → Prop} (hd : ∀ c, o.op ≠ .defer c) (h : o.wp P a w K Q) : o.wpIn (WideR ro) 1 P a w K Q := by
  refine ⟨fun _ _ => trivial, ?_⟩
  rw [show (WideR ro).round = ro from rfl, Oper.semAt_eq ro a.eval o hd]
  unfold Oper.wp at h
  revert h
  generalize (execOp a.eval o).run P w = res
  intro h
  cases res with
  | ok nx w' =>
    cases nx with
    | enter f args => exact ⟨fun h => (by cases h), callsR h⟩
    | row r args => exact ⟨fun h => (by cases h), rowsR h⟩
    | value => exact h
    | skip => exact h
    | defer => exact h
    | _ => exact h.elim
  | halt hl w' => cases hl <;> first | exact h | exact h.elim
section
variable {ro : Option Nat} {P : Program} {ops : Array Oper} {Q : Exit → Act → World → Prop} {a : Act} {w : World} {o : Oper} {rest : List Oper}
abbrev wpListR (ro : Option Nat) (P : Program) (ops : Array Oper) (Q : Exit → Act → World → Prop) : List Oper → Act → World → Prop := wpListIn (WideR ro) 1 P ops Q
theorem wpListR_step (hd : ∀ c, o.op ≠ .defer c) (h : ∀ K : Act → World → Prop, (∀ a w, wpListR ro P ops Q rest a w → K a w) →
    if Region.wanted o (yielded ops a.tmps) then o.wp P a w K Q else K (a.put o.dst undef) w) : wpListR ro P ops Q (o :: rest) a w :=
  wpListIn_step fun K hK => by
    have := h K hK
    split
    · rename_i hw; rw [if_pos hw] at this; exact opUp hd this
    · rename_i hw; rw [if_neg hw] at this; exact ⟨fun _ _ => trivial, this⟩
theorem wpListR_plain (hd : ∀ c, o.op ≠ .defer c) (hg : o.guard = none) (h : ∀ K : Act → World → Prop, (∀ a w, wpListR ro P ops Q rest a w → K a w) → o.wp P a w K Q) : wpListR ro P ops Q (o :: rest) a w :=
  wpListIn_plain hg fun K hK => opUp hd (h K hK)
end
theorem pval_nd {P : Program} {h : Heap} {wm c : Bool} {t : List (Nat × V)} {op : Op} {r : V × Prop} (hv : pval P h wm c t op = some r) : ∀ c, op ≠ .defer c := by
  rintro c rfl; cases hv
theorem hop_nd {P : Program} {s : S} {d : Option Nat} {op : Op} {r : S × Prop} (hv : hop P s d op = some r) : ∀ c, op ≠ .defer c := by
  rintro c rfl; cases hv

def tBin : BinOp → Bool
  | .eql => true
  | .neq => true
  | .lss => true
  | .leq => true
  | .gtr => true
  | .geq => true
  | .and => true
  | .or => true
  | .xor => true
  | .andNot => true
  | _ => false
/-- Operations that ask nothing. -/
def triv (t : List (Nat × V)) : Op → Bool
  | .move _ => true
  | .assign _ => true
  | .fieldAddr _ _ _ => true
  | .field _ _ _ => true
  | .extract _ _ => true
  | .build _ _ => true
  | .makeFunc _ _ _ => true
  | .nilCheck _ => true
  | .call _ => true
  | .load _ a => match ev t a with
    | .oelem _ _ _ _ => false
    | _ => true
  | .binOp op _ _ _ _ => tBin op
  | .unOp .not _ _ => true
  | _ => false

def trivH : Op → Bool
  | .alloc _ => true
  | .box _ _ => true
  | .buildSlice _ _ _ => true
  | _ => false

theorem triv_opV {P : Program} {wm : Bool} {op : BinOp} {ty : TypeId} {x y v : V} {φ : Prop} (h : opV P wm op ty x y = some (v, φ))
    (ht : tBin op = true) : φ := by
  unfold opV at h
  split at h
  · cases op <;> simp only [eqlV, reduceCtorEq] at h
    all_goals
      split at h
      · rw [Option.map_eq_some_iff] at h; obtain ⟨q, _, he⟩ := h; cases he; trivial
      · cases h
  · split at h
    · cases op <;> simp only [reduceCtorEq] at h <;> cases h <;> trivial
    · cases h
  · split at h
    · cases op <;> simp only [reduceCtorEq] at h <;> cases h <;> trivial
    · cases h
  · split at h
    · cases op <;> simp only [reduceCtorEq] at h <;> cases h <;> trivial
    · cases h
  · unfold binV at h
    split at h
    · cases op <;> (try (simp [tBin] at ht; done))
      all_goals
        dsimp only at h
        split at h
        · cases wm <;> simp only [intV, Option.some.injEq, Prod.mk.injEq] at h <;> obtain ⟨_, rfl⟩ := h <;> trivial
        · cases h
    · cases op <;> (try (simp [tBin] at ht; done))
      all_goals
        simp only [b16V, Option.some.injEq, Prod.mk.injEq] at h; obtain ⟨_, rfl⟩ := h; trivial
    · cases op <;> (try (simp [tBin] at ht; done)) <;> simp at h
    · cases op <;> (try (simp [tBin] at ht; done))
      all_goals first
        | (simp only [strV, Option.some.injEq, Prod.mk.injEq] at h; obtain ⟨_, rfl⟩ := h; trivial)
        | (simp [strV] at h)
    · cases h

theorem triv_pval {P : Program} {h : Heap} {wm c : Bool} {t : List (Nat × V)} {op : Op} {v : V} {φ : Prop} (hv : pval P h wm c t op = some (v, φ)) (ht : triv t op = true) : φ := by
  cases op <;> simp only [triv, Bool.false_eq_true] at ht <;> simp only [pval] at hv
  case move => cases hv; trivial
  case assign => cases hv; trivial
  case fieldAddr => rw [Option.map_eq_some_iff] at hv; obtain ⟨_, _, he⟩ := hv; cases he; trivial
  case field => rw [Option.map_eq_some_iff] at hv; obtain ⟨_, _, he⟩ := hv; cases he; trivial
  case extract =>
    split at hv
    · split at hv
      · cases hv; trivial
      · cases hv
    · cases hv
  case build => rw [Option.map_eq_some_iff] at hv; obtain ⟨_, _, he⟩ := hv; cases he; trivial
  case makeFunc =>
    split at hv
    · cases hv; trivial
    · cases hv
  case nilCheck => split at hv <;> cases hv <;> trivial
  case call =>
    split at hv
    · rw [Option.map_eq_some_iff] at hv; obtain ⟨_, _, he⟩ := hv; cases he; trivial
    · cases hv
  case load ty a =>
    split at ht
    · cases ht
    · rename_i hne
      unfold loadV at hv
      split at hv
      · split at hv
        · rw [Option.map_eq_some_iff] at hv; obtain ⟨_, _, he⟩ := hv; cases he; trivial
        · cases hv
      · rw [Option.map_eq_some_iff] at hv; obtain ⟨_, _, he⟩ := hv; cases he; trivial
      · rename_i he; exact absurd he (hne _ _ _ _)
      · cases hv
  case binOp op ty x y yt => exact triv_opV hv ht
  case unOp op ty x =>
    cases op <;> simp only [Bool.false_eq_true] at ht
    generalize ev t x = u at hv
    cases u <;> simp only [unV, reduceCtorEq, Option.some.injEq, Prod.mk.injEq] at hv
    obtain ⟨_, rfl⟩ := hv; trivial

theorem triv_hop {P : Program} {s s' : S} {dst : Option Nat} {op : Op} {φ : Prop} (hv : hop P s dst op = some (s', φ)) (ht : trivH op = true) : φ := by
  cases op <;> simp only [trivH, Bool.false_eq_true] at ht <;> simp only [hop] at hv
  case alloc =>
    split at hv
    · unfold newBox at hv; split at hv <;> cases hv; trivial
    · cases hv
  case box =>
    split at hv
    · unfold newBox at hv; split at hv <;> cases hv; trivial
    · cases hv
  case buildSlice =>
    split at hv
    · unfold buildSliceV at hv
      split at hv
      · split at hv
        · split at hv
          · split at hv <;> cases hv; trivial
          · cases hv
        · cases hv
      · cases hv
    · cases hv

/-- No operand hangs on a guard. -/
def noOpt (t : List (Nat × V)) : List Operand → Bool
  | [] => true
  | x :: l => match raw t x with
    | .opt _ _ => false
    | _ => noOpt t l
theorem noOpt_obl {c : Bool} {t : List (Nat × V)} : ∀ {l : List Operand}, noOpt t l = true → obl c t l
  | [], _ => trivial
  | x :: l, h => by
    simp only [noOpt] at h
    simp only [obl]
    split at h
    · cases h
    · rename_i hne
      split
      · rename_i c' v' he; exact absurd he (hne c' v')
      · exact noOpt_obl h

def andO : Option Prop → Prop → Prop
  | none, ψ => ψ
  | some φ, ψ => φ ∧ ψ

/-- What an operation asks, beside what its operands ask. -/
def cond2 (b : Bool) (φ : Prop) (nb : Bool) (o : Prop) : Option Prop :=
  match b, nb with
  | true, true => none
  | false, true => some φ
  | true, false => some o
  | false, false => some (φ ∧ o)
theorem cond2_ok {b : Bool} {φ : Prop} {nb : Bool} {o ψ : Prop} (h : andO (cond2 b φ nb o) ψ) (hb : b = true → φ) (hn : nb = true → o) : φ ∧ o ∧ ψ := by
  cases b <;> cases nb <;> simp only [cond2, andO] at h
  · exact ⟨h.1.1, h.1.2, h.2⟩
  · exact ⟨h.1, hn rfl, h.2⟩
  · exact ⟨hb rfl, h.1, h.2⟩
  · exact ⟨hb rfl, hn rfl, h⟩

/-- On what a guarded operation hangs. -/
def guardC (ops : Array Oper) (t : List (Nat × V)) (j : Nat) (want : Bool) : Option Bool :=
  match (ops[j]?).bind (·.dst) with
  | some d => if G0 ≤ d then none else match tget t d with
    | .bool b => some (b == want)
    | .opt c (.bool b) => some (c && (b == want))
    | _ => none
  | none => none

def wrapped (W : List Nat) (o : Oper) : Bool := match o.dst with
  | some d => W.contains d
  | none => false

def step (P : Program) (W : List Nat) (ops : Array Oper) (s : S) (o : Oper) : Option (S × Option Prop) :=
  match o.guard with
  | none =>
    match pval P s.h (wrapped W o) true s.t o.op with
    | some (v, φ) => match o.dst with
      | some d => if d < s.N then some (⟨s.N, (d, v) :: s.t, s.h, s.b, s.o⟩, cond2 (triv s.t o.op) φ (noOpt s.t (needs o.op)) (obl true s.t (needs o.op))) else none
      | none => some (s, cond2 (triv s.t o.op) φ (noOpt s.t (needs o.op)) (obl true s.t (needs o.op)))
    | none => match hop P s o.dst o.op with
      | some (s', φ) => some (s', cond2 (trivH o.op) φ (noOpt s.t (needs o.op)) (obl true s.t (needs o.op)))
      | none => none
  | some (j, want) => match guardC ops s.t j want, o.dst with
    | some c, some d => match pval P s.h (wrapped W o) c s.t o.op with
      | some (v, φ) => if d < s.N then some (⟨s.N, (d, .opt c v) :: s.t, s.h, s.b, s.o⟩, cond2 (triv s.t o.op) (c = true → φ) (noOpt s.t (needs o.op)) (obl c s.t (needs o.op))) else none
      | none => none
    | _, _ => none

def arun (P : Program) (W : List Nat) (ops : Array Oper) : Nat → List Oper → S → Option (List Oper × S × Prop)
  | 0, l, s => some (l, s, True)
  | _ + 1, [], s => some ([], s, True)
  | n + 1, o :: l, s => match step P W ops s o with
    | some (s', φ) => match arun P W ops n l s' with
      | some (l', s'', ψ) => some (l', s'', andO φ ψ)
      | none => none
    | none => none

theorem put_none_sim {z : Start} {s : S} {a : Act} {w : World} (h : Sim z s a w) (x : Value) : Sim z s (a.put none x) w := h

theorem step_wp {P : Program} {W : List Nat} {ops : Array Oper} {z : Start} {s s' : S} {a : Act} {w : World} (hs : Sim z s a w) {o : Oper} {φ : Option Prop} {ψ : Prop} (hst : step P W ops s o = some (s', φ)) (hφ : andO φ ψ)
    {Q : Exit → Act → World → Prop} {rest : List Oper} {ro : Option Nat} (hK : ψ → ∀ a' w', Sim z s' a' w' → wpListR ro P ops Q rest a' w') : wpListR ro P ops Q (o :: rest) a w := by
  unfold step at hst
  split at hst
  · rename_i hg
    split at hst
    · rename_i v φ' hv
      have fin : ∀ {ψ' : Prop}, (φ' ∧ obl true s.t (needs o.op) ∧ ψ') → ψ' ∧ ∃ x, (execOp a.eval o).run P w = .ok (.value x) w ∧ (∃ St g, WSim z St g s.h w ∧ TSim St w g s.N s.t a ∧ KD z St w g s.b a ∧ Rel St w g v x) := by
        rintro ψ' ⟨h1, h2, h3⟩
        obtain ⟨St, g, hW, hT, hKp⟩ := hs
        obtain ⟨x, hx, hr⟩ := run_pval (P := P) hW.ok hT rfl hv h1 h2
        exact ⟨h3, x, hx, St, g, hW, hT, hKp, hr⟩
      split at hst
      · rename_i d hd
        split at hst
        case isFalse => cases hst
        rename_i hdN
        cases hst
        obtain ⟨hψ, x, hx, St, g, hW, hT, hKp, hr⟩ := fin (cond2_ok hφ (triv_pval hv) noOpt_obl)
        refine wpListR_plain (pval_nd hv) hg fun K hKK => ?_
        unfold Oper.wp
        rw [hx, Oper.upon_value, hd]
        exact hKK _ _ (hK hψ _ _ ⟨St, g, hW, hT.put hdN hr, hKp.to (fun _ h => h) (fun _ _ => rfl) (put_defers ..) (fun _ _ => rfl)⟩)
      · rename_i hd
        cases hst
        obtain ⟨hψ, x, hx, St, g, hW, hT, hKp, hr⟩ := fin (cond2_ok hφ (triv_pval hv) noOpt_obl)
        refine wpListR_plain (pval_nd hv) hg fun K hKK => ?_
        unfold Oper.wp
        rw [hx, Oper.upon_value, hd]
        exact hKK _ _ (hK hψ _ _ ⟨St, g, hW, hT, hKp⟩)
    · split at hst
      case h_2 => cases hst
      rename_i s'' φ' hn
      cases hst
      obtain ⟨h1, h2, h3⟩ := cond2_ok hφ (triv_hop hn) noOpt_obl
      refine wpListR_plain (hop_nd hn) hg fun K hKK => ?_
      exact run_hop hs hn h1 h2 fun a' w' hsim => hKK _ _ (hK h3 _ _ hsim)
  · rename_i j want hg
    split at hst
    case h_2 => cases hst
    rename_i c d hgc hd
    split at hst
    case h_2 => cases hst
    rename_i v φ' hv
    split at hst
    case isFalse => cases hst
    rename_i hdN
    cases hst
    obtain ⟨h1, h2, h3⟩ := cond2_ok hφ (fun ht _ => triv_pval hv ht) noOpt_obl
    obtain ⟨St, g, hW, hT, hKp⟩ := hs
    have hwant : Region.wanted o (yielded ops a.tmps) = c := by
      unfold guardC at hgc
      split at hgc
      case h_2 => cases hgc
      rename_i dj hdj
      split at hgc
      case isTrue => cases hgc
      rename_i hdjG
      have hrel := hT.tmp (d := dj) (by omega)
      have hy : yielded ops a.tmps j = match a.tmps.getD dj undef with | .bool b => some b | _ => none := by
        unfold yielded
        rw [hdj]
        simp only [Option.bind_some]
        by_cases hlt : dj < a.tmps.size
        · simp only [hlt, Array.getElem?_eq_getElem, Array.getD_eq_getD_getElem?, Option.getD_some]
          generalize a.tmps[dj] = q; cases q <;> rfl
        · simp [Array.getElem?_eq_none (Nat.le_of_not_lt hlt), undef]
      unfold Region.wanted
      rw [hg]
      dsimp only
      rw [hy]
      split at hgc
      · rename_i b hb; cases hgc; rw [hb] at hrel; rw [hrel.bool_inv]
        cases b <;> cases want <;> rfl
      · rename_i c' b hb; cases hgc; rw [hb] at hrel
        generalize a.tmps.getD dj undef = u at hrel
        cases hrel with
        | opt _ _ _ _ h h0 =>
          cases c' with
          | true => rw [(h rfl).bool_inv]; cases b <;> cases want <;> rfl
          | false => rw [h0 rfl]; rfl
      · cases hgc
    cases c with
    | true =>
      obtain ⟨x, hx, hr⟩ := run_pval (P := P) hW.ok hT rfl hv (h1 rfl) h2
      refine wpListR_step (pval_nd hv) fun K hKK => ?_
      rw [if_pos hwant]
      unfold Oper.wp
      rw [hx, Oper.upon_value, hd]
      exact hKK _ _ (hK h3 _ _ ⟨St, g, hW, hT.put hdN (.opt _ _ _ _ (fun _ => hr) (fun h => by cases h)), hKp.to (fun _ h => h) (fun _ _ => rfl) (put_defers ..) (fun _ _ => rfl)⟩)
    | false =>
      refine wpListR_step (pval_nd hv) fun K hKK => ?_
      rw [if_neg (by rw [hwant]; simp), hd]
      exact hKK _ _ (hK h3 _ _ ⟨St, g, hW, hT.put hdN (.opt _ _ _ _ (fun h => by cases h) (fun _ => rfl)), hKp.to (fun _ h => h) (fun _ _ => rfl) (put_defers ..) (fun _ _ => rfl)⟩)

/-- The post of a body's part: some state that 'Q' takes, and the model in it. -/
def Post (z : Start) (Q : Exit → S → Prop) : Exit → Act → World → Prop := fun e a w => ∃ s, Q e s ∧ Sim z s a w
def AOps (P : Program) (ops : Array Oper) (Q : Exit → S → Prop) (l : List Oper) (s : S) : Prop :=
  ∀ z a w, Sim z s a w → wpListR z.ro P ops (Post z Q) l a w
def AWp (P : Program) (c : Code) (Q : Exit → S → Prop) (s : S) : Prop :=
  ∀ z a w, Sim z s a w → c.wpIn (WideR z.ro) 1 P (Post z Q) a w

theorem arun_wp {P : Program} {W : List Nat} {ops : Array Oper} {Q : Exit → S → Prop} : ∀ (n : Nat) {l l' : List Oper} {s s' : S} {φ : Prop}, arun P W ops n l s = some (l', s', φ) → φ →
    AOps P ops Q l' s' → AOps P ops Q l s := by
  intro n
  induction n with
  | zero => intro l l' s s' φ h _ hK; simp only [arun] at h; cases h; exact hK
  | succ n ih =>
    intro l l' s s' φ h hφ hK
    cases l with
    | nil => simp only [arun] at h; cases h; exact hK
    | cons o l =>
      simp only [arun] at h
      split at h
      case h_2 => cases h
      rename_i s1 φ1 hst
      split at h
      case h_2 => cases h
      rename_i l2 s2 ψ hrest
      cases h
      intro z a w hs
      exact step_wp hs hst hφ fun hψ a' w' hsim => ih hrest hψ hK z a' w' hsim

theorem AOps.nil {P : Program} {ops : Array Oper} {Q : Exit → S → Prop} {s : S} (h : Q .normal s) : AOps P ops Q [] s := fun _ _ _ hs => ⟨s, h, hs⟩

/-! ### The rules for code -/
section
variable {P : Program} {Q : Exit → S → Prop} {s : S}
theorem AWp.skip (h : Q .normal s) : AWp P .skip Q s := fun _ _ _ hs => wpIn_skip ⟨s, h, hs⟩
theorem AWp.label {l : Nat} (h : Q .normal s) : AWp P (.label l) Q s := fun _ _ _ hs => wpIn_label ⟨s, h, hs⟩
theorem AWp.exit {id : Nat} (h : Q (.exit id) s) : AWp P (.exit id) Q s := fun _ _ _ hs => wpIn_exit ⟨s, h, hs⟩
theorem AWp.ret (h : Q .ret s) : AWp P .ret Q s := fun _ _ _ hs => wpIn_ret ⟨s, h, hs⟩
def thenQ (N : S → Prop) (Q : Exit → S → Prop) : Exit → S → Prop
  | .normal, s => N s
  | e, s => Q e s
theorem AWp.seq {x y : Code} (h : AWp P x (thenQ (AWp P y Q) Q) s) : AWp P (.seq x y) Q s := fun z a w hs =>
  wpIn_seq (wpIn_mono (h z a w hs) fun e a' w' ⟨s', hq, hs'⟩ => by
    cases e with
    | normal => exact hq z a' w' hs'
    | _ => exact ⟨s', hq, hs'⟩)
theorem AWp.mono {c : Code} {Q' : Exit → S → Prop} (h : AWp P c Q s) (hq : ∀ e s, Q e s → Q' e s) : AWp P c Q' s := fun z a w hs =>
  wpIn_mono (h z a w hs) fun e a' w' ⟨s', h1, h2⟩ => ⟨s', hq e s' h1, h2⟩
/-- 'x' runs through to one state, then 'y'. -/
theorem AWp.seq1 {x y : Code} (s1 : S) (h : AWp P x (fun e s' => e = .normal ∧ s' = s1) s) (h2 : AWp P y Q s1) : AWp P (.seq x y) Q s :=
  AWp.seq (h.mono fun e s' ⟨he, hs⟩ => by subst he; subst hs; exact h2)
def blockQ (id : Nat) (Q : Exit → S → Prop) : Exit → S → Prop
  | .exit id', s => if id' = id then Q .normal s else Q (.exit id') s
  | e, s => Q e s
theorem AWp.block {id : Nat} {c : Code} (h : AWp P c (blockQ id Q) s) : AWp P (.block id c) Q s := fun z a w hs =>
  wpIn_block (wpIn_mono (h z a w hs) fun e a' w' ⟨s', hq, hs'⟩ => by
    cases e with
    | exit id' =>
      simp only [blockQ, Exit.inBlock] at hq ⊢
      split
      · rename_i hid; rw [if_pos hid] at hq; exact ⟨s', hq, hs'⟩
      · rename_i hid; rw [if_neg hid] at hq; exact ⟨s', hq, hs'⟩
    | _ => exact ⟨s', hq, hs'⟩)
theorem AWp.cond {c : Operand} {x y : Code} {b : Bool} (hc : raw s.t c = .bool b) (h1 : b = true → AWp P x Q s) (h2 : b = false → AWp P y Q s) : AWp P (.cond c x y) Q s := fun z a w hs => by
  obtain ⟨St, g, hW, hT, hKp⟩ := hs
  have := rel_raw hT c
  rw [hc] at this
  exact wpIn_cond_split this.bool_inv (fun hb => h1 hb z a w ⟨St, g, hW, hT, hKp⟩) (fun hb => h2 hb z a w ⟨St, g, hW, hT, hKp⟩)
theorem AWp.loop {c : Code} {α : Type} (inv : α → S) (pre : α → Prop) (μ : α → Nat) (x : α) (hx : pre x)
    (round : ∀ x, pre x → AWp P c (thenQ (fun s' => ∃ y, s' = inv y ∧ pre y ∧ μ y < μ x) Q) (inv x)) : AWp P (.loop c) Q (inv x) := by
  intro z a w hs
  refine wpIn_loop_ghost (fun n a w => ∃ x, pre x ∧ μ x = n ∧ Sim z (inv x) a w) (μ x) ⟨x, hx, rfl, hs⟩ ?_
  rintro n a w ⟨x, hx, rfl, hs⟩
  refine wpIn_mono (round x hx z a w hs) fun e a' w' ⟨s', hq, hs'⟩ => ?_
  cases e with
  | normal =>
    obtain ⟨y, rfl, hy, hlt⟩ := hq
    exact ⟨μ y, hlt, y, hy, rfl, hs'⟩
  | _ => exact ⟨s', hq, hs'⟩
theorem AWp.region {id : Nat} {l : List Oper} (h : AOps P l.toArray Q l s) : AWp P (.region id l.toArray false) Q s := fun z a w hs => wpIn_region_lit (h z a w hs)
end

end Go.Abs
