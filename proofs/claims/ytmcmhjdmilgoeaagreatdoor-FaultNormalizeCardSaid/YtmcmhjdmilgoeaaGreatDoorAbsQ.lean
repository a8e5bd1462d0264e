/- Effects of operations, reckoned; whole regions. -/
import Derived.Test.YtmcmhjdmilgoeaaGreatDoorAbsN
import Derived.Test.YtmcmhjdmilgoeaaGreatDoorAbsP
namespace Go.Abs
open Go

/-- A call by contract: what the callee sees, takes, gives and returns. -/
structure CC where
  args : List V
  take : List Nat
  keep : List Nat
  h1 : Heap
  r : V
  nw : List Nat
  lent : List Nat
  gl : List Nat

def gSlots (l : List Operand) : List Nat := l.filterMap fun
  | .global g => some (G0 + g)
  | _ => none
def looksT (ops : Array Oper) (t : List (Nat × V)) (o : Oper) (gl : List Nat) : List (Nat × V) := (o.looksAt ops ++ gSlots o.op.operands.toList ++ gl.map (G0 + ·)).filterMap fun d => if (tget t d).isAny then none else some (d, tget t d)
mutual
def V.ids : V → List Nat
  | .own r => [r]
  | .ptr r _ => [r]
  | .oelem r _ _ _ => [r]
  | .osl r _ _ _ => [r]
  | .agg cs => V.idsAll cs
  | .tup cs => V.idsAll cs
  | .fn _ cs => V.idsAll cs
  | .opt _ v => V.ids v
  | _ => []
def V.idsAll : List V → List Nat
  | [] => []
  | v :: l => V.ids v ++ V.idsAll l
end
def Blk.ids : Blk → List Nat
  | .cells _ cs => V.idsAll cs
  | .yld o _ => yoIds o
  | _ => []
def blks (h : Heap) (ids : List Nat) : Heap := ids.eraseDups.filterMap fun r => match h.get r with
  | some b => some (r, b)
  | none => none
def grow (h : Heap) : Nat → List Nat → List Nat
  | 0, ids => ids
  | n + 1, ids => match (ids.flatMap fun r => match h.get r with | some b => b.ids | none => []).filter (fun k => !ids.contains k) with
    | [] => ids
    | l => grow h n (ids ++ l)
def opIds (t : List (Nat × V)) (l : List Operand) : List Nat := V.idsAll (l.map (raw t))

def dstOk (o : Oper) (N : Nat) : Bool := match o.dst with
  | some d => decide (d < N)
  | none => true
def effP (P : Program) (W : List Nat) (ops : Array Oper) (N : Nat) (t0 : List (Nat × V)) (hr : Heap) (o : Oper) : Option (Eff × Option Prop) :=
  if dstOk o N then
    match o.guard with
    | none => match pval P hr (wrapped W o) true t0 o.op with
      | some (v, φ) => some (⟨o.dst, v, t0, hr, [], [], []⟩, cond2 (triv t0 o.op) φ (noOpt t0 (needs o.op)) (obl true t0 (needs o.op)))
      | none => none
    | some (j, want) => match guardC ops t0 j want, o.dst with
      | some c, some d => match pval P hr (wrapped W o) c t0 o.op with
        | some (v, φ) => some (⟨some d, .opt c v, t0, hr, [], [], []⟩, cond2 (triv t0 o.op) (c = true → φ) (noOpt t0 (needs o.op)) (obl c t0 (needs o.op)))
        | none => if c then none else some (⟨some d, .opt c (.bool false), t0, hr, [], [], []⟩, none)
      | _, _ => none
  else none

def guardOn (ops : Array Oper) (t0 : List (Nat × V)) (o : Oper) : Bool := match o.guard with
  | none => true
  | some (j, want) => match guardC ops t0 j want with
    | some c => c
    | none => false
def nwOf (o : Oper) (t0 : List (Nat × V)) (off : Nat) : List Nat := match o.dst with
  | none => []
  | some d => match o.op with
    | .call cl => match cl.args.toList with
      | x :: _ => match ev t0 x with
        | .own r => [r]
        | _ => [d + off]
      | _ => [d + off]
    | _ => [d + off]

def outB (b : List Nat) (h1 : Heap) (nw : List Nat) (r : V) : Bool :=
  V.within (hids h1) r && Heap.within (hids h1) h1 && b.all (fun k => !nw.contains k) && nw.all (fun k => (hids h1).contains k)
theorem outB_ok {s : S} {h0 h1 : Heap} {nw : List Nat} {r : V} (h : outB s.b h1 nw r = true) {lent : List Nat} (hl : lent = [] ∨ (r.flat = true ∧ Heap.Flat h1))
    (hd : ∀ k, k ∈ hids h1 → k ∉ hids h0 → s.h.get k = none) : outOk s lent h0 h1 nw r := by
  unfold outB at h
  simp only [Bool.and_eq_true, List.all_eq_true, Bool.not_eq_true', List.contains_eq_mem, decide_eq_true_eq, decide_eq_false_iff_not] at h
  refine ⟨h.1.1.1, h.1.1.2, fun k hk => ?_, h.1.2, h.2, hl⟩
  rw [get_dels]
  split
  · rfl
  · rename_i hn; exact hd k hk hn

def dstV (o : Oper) (t : List (Nat × V)) : V := match o.dst with
  | some d => tget t d
  | none => .any
def effH (P : Program) (ops : Array Oper) (N : Nat) (b : List Nat) (off : Nat) (t0 : List (Nat × V)) (h0 : Heap) (o : Oper) : Option (Eff × Option Prop) :=
  if dstOk o N && guardOn ops t0 o then
    let nw := nwOf o t0 off
    match hop P ⟨N, t0, h0, b ++ (hids h0).filter (fun k => !nw.contains k), off⟩ o.dst o.op with
    | some (s1, φ) =>
      if outB b s1.h nw (dstV o s1.t) && (hids s1.h).all (fun k => nw.contains k || (hids h0).contains k) then
        some (⟨o.dst, dstV o s1.t, t0, [], h0, s1.h, nw⟩, cond2 (trivH o.op) φ (noOpt t0 (needs o.op)) (obl true t0 (needs o.op)))
      else none
    | none => none
  else none

/-- What a call by contract asks. -/
def callP (P : Program) (c : Bool) (fid : FuncId) (gs : List (Nat × V)) (bk : List Nat) (h0 : Heap) (hr : Heap) (lent : List Nat) (args args' : List V) (r : V) (h1 : Heap) : Prop :=
  (c = true → Spec P fid gs bk h0 args' (fun v h => v = r ∧ h = h1)) ∧ (c = true → VLes (args.map (lendV hr lent)) args') ∧ (lent = [] ∨ (r.flat = true ∧ Heap.Flat h1))

def effC (P : Program) (ops : Array Oper) (N : Nat) (b : List Nat) (t0 : List (Nat × V)) (hr h0 : Heap) (cc : CC) (o : Oper) : Option (Eff × Option Prop) :=
  match o.op with
  | .call cl => match cl.callee with
    | .value f => match ev t0 f with
      | .fn (.func fid) caps =>
        if dstOk o N && callable P fid && outB b cc.h1 cc.nw cc.r && cc.lent.all (fun r => (h0.get r).isNone && (match hr.get r with | some (.rows _ _ _ _) => true | _ => false)) &&
          (hids cc.h1).all (fun k => cc.nw.contains k || cc.keep.contains k) then
          match o.guard with
          | none => some (⟨o.dst, cc.r, t0, hr, h0, cc.h1, cc.nw⟩, cond2 false (callP P true fid (cc.gl.map fun g => (g, tget t0 (G0 + g))) cc.keep h0 hr cc.lent (cl.args.toList.map (ev t0) ++ caps) cc.args cc.r cc.h1) (noOpt t0 (needs o.op)) (obl true t0 (needs o.op)))
          | some (j, want) => match guardC ops t0 j want with
            | some c => match o.dst, h0, cc.h1, cc.nw with
              | some d, [], [], [] => some (⟨some d, .opt c cc.r, t0, hr, [], [], []⟩, cond2 false (callP P c fid (cc.gl.map fun g => (g, tget t0 (G0 + g))) cc.keep [] hr cc.lent (cl.args.toList.map (ev t0) ++ caps) cc.args cc.r []) (noOpt t0 (needs o.op)) (obl c t0 (needs o.op)))
              | _, _, _, _ => if c then some (⟨o.dst, cc.r, t0, hr, h0, cc.h1, cc.nw⟩, cond2 false (callP P true fid (cc.gl.map fun g => (g, tget t0 (G0 + g))) cc.keep h0 hr cc.lent (cl.args.toList.map (ev t0) ++ caps) cc.args cc.r cc.h1) (noOpt t0 (needs o.op)) (obl true t0 (needs o.op))) else none
            | none => none
        else none
      | _ => none
    | _ => none
  | _ => none

theorem tget_sub {T : Nat → V} : ∀ {t0 : List (Nat × V)}, (∀ p ∈ t0, T p.1 = p.2) → ∀ d, tget t0 d = T d ∨ tget t0 d = .any
  | [], _, d => .inr rfl
  | (k, v) :: t, h, d => by
    simp only [tget]
    split
    · rename_i e; subst e; exact .inl (h (k, v) (List.mem_cons_self ..)).symm
    · exact tget_sub (fun p hp => h p (List.mem_cons_of_mem _ hp)) d
theorem hcov_of {h : Heap} : ∀ {l : Heap}, (∀ p ∈ l, ∃ b, h.get p.1 = some b ∧ BLe b p.2) → hcov h l
  | [], _ => trivial
  | (r, b') :: _l, hh => ⟨hh (r, b') (List.mem_cons_self ..), hcov_of fun p hp => hh p (List.mem_cons_of_mem _ hp)⟩
theorem pre_cov {s : S} {e : Eff} (h : s.toF.pre e) : hcov s.h e.h0 := hcov_of fun p hp => by
  obtain ⟨b', h1, h2⟩ := h.h0 p hp
  exact ⟨b', h1, h2.ble⟩
theorem pre_bok {St : Nat → Prop} {z : Start} {w : World} {g : Gh} {s : S} {e : Eff} (hW : WSim z St g s.h w) (h : s.toF.pre e) : BOk St w g e.hr := by
  intro r b hb
  obtain ⟨b', h1, h2⟩ := h.hr (r, b) (get_mem2 hb)
  obtain ⟨v, h3, h4⟩ := hW.ok r b' h1
  exact ⟨v, h3, h2.ble _ _ _ _ h4⟩
theorem pre_tsim {St : Nat → Prop} {w : World} {g : Gh} {s : S} {a : Act} {e : Eff} (hT : TSim St w g s.N s.t a) (h : s.toF.pre e) : TSim St w g s.N e.t0 a :=
  hT.get_any fun d => tget_sub (T := tget s.t) h.t0 d

theorem wanted_none {o : Oper} {ops : Array Oper} {a : Act} (hg : o.guard = none) : Region.wanted o (yielded ops a.tmps) = true := by simp [Region.wanted, hg]
theorem wanted_guard {St : Nat → Prop} {w : World} {g : Gh} {N : Nat} {t : List (Nat × V)} {a : Act} (hT : TSim St w g N t a) {o : Oper} {ops : Array Oper} {j : Nat} {want c : Bool} (hg : o.guard = some (j, want)) (hgc : guardC ops t j want = some c) :
    Region.wanted o (yielded ops a.tmps) = c := by
  unfold guardC at hgc
  split at hgc
  case h_2 => cases hgc
  rename_i dj hdj
  split at hgc
  case isTrue => cases hgc
  rename_i hdjG
  have hrel := hT.tmp (d := dj) (by omega)
  have hy : yielded ops a.tmps j = match a.tmps.getD dj undef with | .bool b => some b | _ => none := by
    unfold yielded
    rw [hdj]
    simp only [Option.bind_some]
    by_cases hlt : dj < a.tmps.size
    · simp only [hlt, Array.getElem?_eq_getElem, Array.getD_eq_getD_getElem?, Option.getD_some]
      generalize a.tmps[dj] = q; cases q <;> rfl
    · simp [Array.getElem?_eq_none (Nat.le_of_not_lt hlt), undef]
  unfold Region.wanted
  rw [hg]
  dsimp only
  rw [hy]
  split at hgc
  · rename_i b hb; cases hgc; rw [hb] at hrel; rw [hrel.bool_inv]
    cases b <;> cases want <;> rfl
  · rename_i c' b hb; cases hgc; rw [hb] at hrel
    generalize a.tmps.getD dj undef = u at hrel
    cases hrel with
    | opt _ _ _ _ h h0 =>
      cases c' with
      | true => rw [(h rfl).bool_inv]; cases b <;> cases want <;> rfl
      | false => rw [h0 rfl]; rfl
  · cases hgc

theorem dN_of {o : Oper} {N : Nat} (h : dstOk o N = true) : ∀ k, o.dst = some k → k < N := by
  intro k hk; unfold dstOk at h; rw [hk] at h; simpa using h

theorem put_pure {z : Start} {s : S} {a : Act} {w : World} {St : Nat → Prop} {g : Gh} (hW : WSim z St g s.h w) (hT : TSim St w g s.N s.t a) (hK : KD z St w g s.b a) {d : Option Nat} (hd : ∀ k, d = some k → k < s.N) {v : V} {x : Value}
    (hx : Rel St w g v x) (t0 : List (Nat × V)) (hr : Heap) : Sim z (afterE s ⟨d, v, t0, hr, [], [], []⟩) (a.put d x) w := by
  have : afterE s ⟨d, v, t0, hr, [], [], []⟩ = ⟨s.N, putT d v s.t, s.h, s.b, s.o⟩ := by simp [afterE, tdrops, hdrops, dels, hids]
  rw [this]
  cases d with
  | none => exact ⟨St, g, hW, hT, hK⟩
  | some k => exact ⟨St, g, hW, hT.put (hd k rfl) hx, hK.to (fun _ h => h) (fun _ _ => rfl) (put_defers ..) (fun _ _ => rfl)⟩

theorem wanted_on {St : Nat → Prop} {w : World} {g : Gh} {N : Nat} {t : List (Nat × V)} {a : Act} (hT : TSim St w g N t a) {o : Oper} {ops : Array Oper} (h : guardOn ops t o = true) : Region.wanted o (yielded ops a.tmps) = true := by
  unfold guardOn at h
  split at h
  · rename_i hg; exact wanted_none hg
  · rename_i j want hg
    split at h
    · rename_i c hgc; rw [wanted_guard hT hg hgc]; exact h
    · cases h
theorem effP_ok {P : Program} {W : List Nat} {ops : Array Oper} {N : Nat} {b : List Nat} {oo : Nat} {t0 : List (Nat × V)} {hr : Heap} {o : Oper} {e : Eff} {φ : Option Prop} {ψ : Prop} (h : effP P W ops N t0 hr o = some (e, φ)) (hφ : andO φ ψ) :
    e.t0 = t0 ∧ e.hr = hr ∧ e.h0 = [] ∧ e.h1 = [] ∧ EffOk P ops b N oo o e ∧ ψ := by
  unfold effP at h
  split at h
  case isFalse => cases h
  rename_i hdN
  have hdN := dN_of hdN
  split at h
  · rename_i hg
    split at h
    case h_2 => cases h
    rename_i v φ' hv
    cases h
    obtain ⟨h1, h2, h3⟩ := cond2_ok hφ (triv_pval hv) noOpt_obl
    refine ⟨rfl, rfl, rfl, rfl, ?_, h3⟩
    rintro z s a w ⟨St, g, hW, hT, hKp⟩ hN _ _ hpre K Q hK
    subst hN
    obtain ⟨x, hx, hrel⟩ := run_pval (P := P) (pre_bok hW hpre) (pre_tsim hT hpre) rfl hv h1 h2
    rw [if_pos (wanted_none hg)]
    refine opUp (pval_nd hv) ?_
    unfold Oper.wp
    rw [hx, Oper.upon_value]
    exact hK _ _ (put_pure hW hT hKp hdN hrel _ _)
  · rename_i j want hg
    split at h
    case h_2 => cases h
    rename_i c d hgc hd
    split at h
    case h_2 =>
      split at h
      case isTrue => cases h
      rename_i hcf
      cases h
      refine ⟨rfl, rfl, rfl, rfl, ?_, hφ⟩
      rintro z s a w ⟨St, g, hW, hT, hKp⟩ hN _ _ hpre K Q hK
      subst hN
      rw [wanted_guard (pre_tsim hT hpre) hg hgc, if_neg hcf, hd]
      have hcf : c = false := by simpa using hcf
      subst hcf
      exact hK _ _ (put_pure hW hT hKp (by rw [← hd]; exact hdN) (.opt _ _ _ _ (fun h => by cases h) (fun _ => rfl)) _ _)
    rename_i v φ' hv
    cases h
    obtain ⟨h1, h2, h3⟩ := cond2_ok hφ (fun ht _ => triv_pval hv ht) noOpt_obl
    refine ⟨rfl, rfl, rfl, rfl, ?_, h3⟩
    rintro z s a w ⟨St, g, hW, hT, hKp⟩ hN _ _ hpre K Q hK
    subst hN
    rw [wanted_guard (pre_tsim hT hpre) hg hgc]
    cases c with
    | true =>
      obtain ⟨x, hx, hrel⟩ := run_pval (P := P) (pre_bok hW hpre) (pre_tsim hT hpre) rfl hv (h1 rfl) h2
      rw [if_pos rfl]
      refine opUp (pval_nd hv) ?_
      unfold Oper.wp
      rw [hx, Oper.upon_value, hd]
      exact hK _ _ (put_pure hW hT hKp (by rw [← hd]; exact hdN) (.opt _ _ _ _ (fun _ => hrel) (fun h => by cases h)) _ _)
    | false =>
      rw [if_neg (by simp), hd]
      exact hK _ _ (put_pure hW hT hKp (by rw [← hd]; exact hdN) (.opt _ _ _ _ (fun h => by cases h) (fun _ => rfl)) _ _)

theorem newBox_b {s s' : S} {d : Nat} {e : TypeId} {v : V} {φ : Prop} (h : newBox s d e v = some (s', φ)) : s'.b = s.b := by
  unfold newBox at h; split at h <;> cases h; rfl
theorem hop_b {P : Program} {s s' : S} {d : Option Nat} {op : Op} {φ : Prop} (h : hop P s d op = some (s', φ)) : s'.b = s.b := by
  cases op <;> simp only [hop, reduceCtorEq] at h
  case alloc => split at h; exact newBox_b h; cases h
  case box => split at h; exact newBox_b h; cases h
  case store =>
    split at h
    · split at h
      · split at h <;> cases h; rfl
      · cases h
    · split at h
      · split at h <;> cases h; rfl
      · cases h
    · cases h
  case buildSlice =>
    split at h
    · unfold buildSliceV at h
      split at h
      · split at h
        · split at h
          · split at h <;> cases h; rfl
          · cases h
        · cases h
      · cases h
    · cases h
  case makeSlice =>
    split at h
    · unfold makeSliceV at h
      split at h
      · split at h
        · split at h
          · dsimp only at h; split at h <;> cases h; rfl
          · cases h
        · cases h
      · cases h
    · cases h
  case call =>
    split at h
    · split at h
      · unfold appendV at h
        split at h
        · split at h
          · split at h
            · split at h
              · split at h <;> cases h; rfl
              · cases h
            · cases h
          · cases h
        · cases h
      · unfold appendZV at h
        split at h
        · split at h
          · split at h
            · dsimp only at h
              split at h <;> cases h; rfl
            · cases h
          · cases h
        · cases h
    · unfold clearV at h
      split at h
      · split at h
        · split at h <;> cases h; rfl
        · cases h
      · cases h
    · cases h
/-- An operation runs alike whatever calls are deferred. -/
theorem wp_swap {P : Program} {o : Oper} {a : Act} {w : World} {K0 K : Act → World → Prop} {Q : Exit → Act → World → Prop} (h : o.wp P { a with defers := [] } w (fun a1 w1 => K0 a1 w1 ∧ a1.defers = []) (fun _ _ _ => False))
    (hK : ∀ x w', K0 (({ a with defers := [] } : Act).put o.dst x) w' → K (a.put o.dst x) w') : o.wp P a w K Q := by
  have he : (execOp ({ a with defers := [] } : Act).eval o) = execOp a.eval o := rfl
  unfold Oper.wp at h ⊢
  rw [he] at h
  revert h
  generalize (execOp a.eval o).run P w = res
  intro h
  cases res with
  | ok nx w' =>
    cases nx with
    | value v => exact hK _ _ h.1
    | skip => exact hK _ _ h.1
    | defer d => have := h.2; rw [put_defers] at this; cases this
    | enter f args =>
      refine Calls.mono h ?_
      intro e w'' he
      cases e with
      | returned v => exact hK _ _ he.1
      | panicked c => exact he.elim
      | outgrown => obtain ⟨_, _, h⟩ := he; exact h.elim
    | row r args => exact Rows.mono h fun v w'' hv => hK _ _ hv.1
    | _ => exact h.elim
  | halt hl w' => cases hl <;> exact h.elim
theorem effH_ok {P : Program} {ops : Array Oper} {N : Nat} {b : List Nat} {oo : Nat} {t0 : List (Nat × V)} {h0 : Heap} {o : Oper} {e : Eff} {φ : Option Prop} {ψ : Prop} (h : effH P ops N b oo t0 h0 o = some (e, φ)) (hφ : andO φ ψ) :
    e.t0 = t0 ∧ e.hr = [] ∧ e.h0 = h0 ∧ EffOk P ops b N oo o e ∧ ψ := by
  unfold effH at h
  split at h
  case isFalse => cases h
  rename_i hc
  rw [Bool.and_eq_true] at hc
  have hdN := dN_of hc.1
  have hg := hc.2
  dsimp only at h
  split at h
  case h_2 => cases h
  rename_i s1 φ' hn
  split at h
  case isFalse => cases h
  rename_i hc2
  rw [Bool.and_eq_true] at hc2
  cases h
  obtain ⟨h1, h2, h3⟩ := cond2_ok hφ (triv_hop hn) noOpt_obl
  refine ⟨rfl, rfl, rfl, ?_, h3⟩
  rintro z s a w ⟨St, g, hW, hT, hKp⟩ hN hb ho hpre K Q hK
  subst hN; subst hb; subst ho
  rw [if_pos (wanted_on (pre_tsim hT hpre) hg)]
  have hcv := pre_cov hpre
  dsimp only at hcv
  have hin := frame_in hW hcv [] rfl
  have hT0 := pre_tsim hT hpre
  have hT1 : TSim (subStart z St g s.h w h0 []).St w g s.N t0 { a with defers := [] } := ⟨hT0.1, hT0.2.1, fun d => (hT0.2.2 d).mono (fun _ h => .inl h) (fun _ _ => rfl)⟩
  refine opUp (hop_nd hn) ?_
  refine wp_swap (K0 := fun a1 w1 => Sim (subStart z St g s.h w h0 []) s1 a1 w1) (run_hop (z := subStart z St g s.h w h0 []) (a := { a with defers := [] }) ⟨_, g, hin, hT1, ⟨fun _ _ => rfl, ⟨[], .nil, rfl, fun D hD => by cases hD⟩, fun _ h => (by cases h), fun _ => rfl⟩⟩ hn h1 h2 fun x w' hsim => ⟨hsim, put_defers ..⟩) fun x w' hsim => ?_
  obtain ⟨St', g', hW', hT', hKp'⟩ := hsim
  refine hK _ _ (frame_out (d := o.dst) hW hT hKp hcv [] hdN hW' ?_ ?_ (outB_ok hc2.1 (.inl rfl) fun k hk hk0 => ?_) rfl)
  · intro hne
    cases hd : o.dst with
    | none => exact absurd hd hne
    | some d =>
      have hlt : d < a.tmps.size := by rw [hT.2.1]; exact hdN d hd
      have hr := hT'.tmp (d := d) (Nat.lt_of_lt_of_le hlt hT.1.2)
      rw [hd] at hr
      simpa [dstV, hd, Act.put, hlt] using hr
  · intro k hk hnk
    have hkb : k ∈ s1.b := by
      have h4 := List.all_eq_true.1 hc2.2 k hk
      simp only [Bool.or_eq_true, List.contains_eq_mem, decide_eq_true_eq] at h4
      have hsb : s1.b = s.b ++ (hids h0).filter (fun k => !(nwOf o t0 s.o).contains k) := hop_b hn
      rw [hsb]
      refine List.mem_append_right _ (List.mem_filter.2 ⟨h4.resolve_left hnk, by simpa using hnk⟩)
    exact hKp'.keep k hkb
  · have h4 := hpre.h1 k hk hk0
    exact h4

theorem lendV_sub {h hr : Heap} : ∀ (lent : List Nat), (∀ r, r ∈ lent → ∃ e sz n f, hr.get r = some (.rows e sz n f) ∧ h.get r = some (.rows e sz n f)) → ∀ v, lendV h lent v = lendV hr lent v
  | [], _, _ => rfl
  | r :: L, hL, v => by
    obtain ⟨e, sz, n, f, h1, h2⟩ := hL r (List.mem_cons_self ..)
    simp only [lendV, h1, h2]
    exact lendV_sub L (fun q hq => hL q (List.mem_cons_of_mem _ hq)) _

theorem run_call {P : Program} {St : Nat → Prop} {w : World} {g : Gh} {N : Nat} {t : List (Nat × V)} {a : Act} (hT : TSim St w g N t a) {o : Oper} {cl : Call} {f : Operand} {fid : FuncId} {caps : List V} {c : Bool} (hc : c = true)
    (hop : o.op = .call cl) (hcal : cl.callee = .value f) (hfx : ev t f = .fn (.func fid) caps) (hcb : callable P fid = true) (ho : obl c t (needs o.op)) :
    ∃ vals, (execOp a.eval o).run P w = .ok (.enter fid vals) w ∧ vals.size = (cl.args.toList.map (ev t) ++ caps).length ∧
      ∀ i, i < (cl.args.toList.map (ev t) ++ caps).length → Rel St w g ((cl.args.toList.map (ev t) ++ caps).getD i .any) (vals.getD i undef) := by
  have E := rel_ev hT hc ho
  rw [hop] at E
  have hfr := E f (by simp [needs, Op.operands, Call.operands, hcal])
  rw [hfx] at hfr
  generalize hfv : a.eval f = fv at hfr
  cases hfr with
  | fn _ _ _ cvs hcl hcr =>
    refine ⟨cl.args.map a.eval ++ cvs, ?_, by simp [hcl], fun i hi => ?_⟩
    · unfold callable at hcb
      split at hcb
      case h_2 => cases hcb
      rename_i fn hfn
      simp only [Bool.and_eq_true, bne_iff_ne, ne_eq] at hcb
      have hb : fn.body.isNone = false := by cases hb : fn.body <;> simp_all
      unfold execOp
      rw [hop]
      simp only [resolve, hcal, hfv, Deferred.ofValue, Sem.run_bind, Sem.run_pure, Result.andThen_ok, invoke, callFunc, run_program, hfn]
      simp [hcb.1, hb]
    · simp only [List.length_append, List.length_map, Array.length_toList] at hi
      by_cases h : i < cl.args.size
      · have := E cl.args[i] (by simp [needs, Op.operands, Call.operands, hcal])
        simpa [List.getD_eq_getElem?_getD, List.getElem?_append, Array.getElem?_append, h] using this
      · have := hcr (i - cl.args.size) (by omega)
        simpa [List.getD_eq_getElem?_getD, List.getElem?_append, Array.getElem?_append, h] using this

theorem call_frame {P : Program} {z : Start} {s : S} {a : Act} {w : World} {St : Nat → Prop} {g : Gh} (hW : WSim z St g s.h w) (hT : TSim St w g s.N s.t a) (hK : KD z St w g s.b a) {fid : FuncId} {h0 hr h1 : Heap} {args args' : List V} {r : V} {nw lent : List Nat} {c : Bool} (hc : c = true)
    {gs : List (Nat × V)} {bk : List Nat} (hp : callP P c fid gs bk h0 hr lent args args' r h1) (hgs : ∀ p ∈ gs, Rel St w g p.2 (.pointer (some ⟨p.1, 0, none⟩))) {vals : Array Value} (hvl : vals.size = args.length) (hvr : ∀ i, i < args.length → Rel St w g (args.getD i .any) (vals.getD i undef)) {t0 : List (Nat × V)} {v : V} {d : Option Nat} (hd : ∀ k, d = some k → k < s.N)
    (hv : ∀ St w g x, Rel St w g r x → Rel St w g v x) (hvw : ∀ ids, v.within ids = r.within ids) (hvf : v.flat = r.flat)
    (hpre : s.toF.pre ⟨d, v, t0, hr, h0, h1, nw⟩) (hob : outB s.b h1 nw r = true) (hlent : lent.all (fun r => (h0.get r).isNone && (match hr.get r with | some (.rows _ _ _ _) => true | _ => false)) = true)
    (hnw : (hids h1).all (fun k => nw.contains k || bk.contains k) = true) {K : Ending → World → Prop} (hK' : ∀ x w', Sim z (afterE s ⟨d, v, t0, hr, h0, h1, nw⟩) (a.put d x) w' → K (.returned x) w') : Calls P fid vals w K := by
  obtain ⟨hspec, hargs, hfl⟩ := hp
  have hargs := hargs hc
  have hcv := pre_cov hpre
  have hl1 : lent.all (fun r => (h0.get r).isNone) = true := List.all_eq_true.2 fun r hr => by
    have := List.all_eq_true.1 hlent r hr
    rw [Bool.and_eq_true] at this; exact this.1
  have hin := frame_in hW hcv lent hl1
  have hlen := hargs.len
  rw [List.length_map] at hlen
  have hsame := lendV_sub (h := s.h) (hr := hr) lent fun r hr' => by
    have := List.all_eq_true.1 hlent r hr'
    rw [Bool.and_eq_true] at this
    have h2 := this.2
    split at h2
    · rename_i e sz n f hg
      obtain ⟨b', h3, h4⟩ := hpre.hr _ (get_mem2 hg)
      exact ⟨e, sz, n, f, hg, by rw [← h4.rows]; exact h3⟩
    · cases h2
  refine (hspec hc (subStart z St g s.h w h0 lent) vals hin (hvl.trans hlen) (fun i hi => ?_) fun p hp => (hgs p hp).mono (fun k hk => .inl hk) (fun _ _ => rfl)).mono ?_
  · have h2 := hargs.get i
    rw [getD_map _ _ _ _ .any (by omega), ← hsame] at h2
    exact h2 _ _ _ _ (Rel.lend hW (St' := (subStart z St g s.h w h0 lent).St) (fun k hk => .inl hk) lent (fun r hr b v k h1 h2 h3 => .inr ⟨r, b, v, hr, h1, h2, h3⟩) ((hvr i (by omega)).mono (fun k hk => .inl hk) (fun _ _ => rfl)))
  · rintro e w' ⟨x, r', h1', St', g', rfl, ⟨rfl, rfl⟩, hW', hrx, hkeep⟩
    have hok : outOk s lent h0 h1' nw r' := outB_ok hob hfl hpre.h1
    have hok' : outOk s lent h0 h1' nw v := ⟨by rw [hvw]; exact hok.1, hok.2.1, hok.2.2.1, hok.2.2.2.1, hok.2.2.2.2.1, by rw [hvf]; exact hok.2.2.2.2.2⟩
    refine hK' _ _ (frame_out (d := d) hW hT hK hcv lent hd hW' (fun _ => hv _ _ _ _ hrx) (fun k hk hnk => ?_) hok' rfl)
    have h4 := List.all_eq_true.1 hnw k hk
    simp only [Bool.or_eq_true, List.contains_eq_mem, decide_eq_true_eq] at h4
    exact hkeep k (h4.resolve_left hnk)

theorem rel_gl {St : Nat → Prop} {w : World} {g : Gh} {N : Nat} {t : List (Nat × V)} {a : Act} (h : TSim St w g N t a) {gl : List Nat} : ∀ p ∈ gl.map (fun k => (k, tget t (G0 + k))), Rel St w g p.2 (.pointer (some ⟨p.1, 0, none⟩)) := by
  intro p hp
  rw [List.mem_map] at hp
  obtain ⟨k, _, rfl⟩ := hp
  exact h.glob k
theorem effC_ok {P : Program} {ops : Array Oper} {N : Nat} {b : List Nat} {oo : Nat} {t0 : List (Nat × V)} {hr h0 : Heap} {cc : CC} {o : Oper} {e : Eff} {φ : Option Prop} {ψ : Prop} (h : effC P ops N b t0 hr h0 cc o = some (e, φ)) (hφ : andO φ ψ) :
    e.t0 = t0 ∧ e.hr = hr ∧ e.h0 = h0 ∧ e.h1 = cc.h1 ∧ EffOk P ops b N oo o e ∧ ψ := by
  unfold effC at h
  split at h
  case h_2 => cases h
  rename_i cl hop
  split at h
  case h_2 => cases h
  rename_i f hcal
  split at h
  case h_2 => cases h
  rename_i fid caps hfx
  split at h
  case isFalse => cases h
  rename_i hc
  simp only [Bool.and_eq_true] at hc
  obtain ⟨⟨⟨⟨hdN, hcb⟩, hob⟩, hlent⟩, hnw⟩ := hc
  have hdN := dN_of hdN
  split at h
  · rename_i hg
    cases h
    obtain ⟨h1, h2, h3⟩ := cond2_ok hφ (fun h => by cases h) noOpt_obl
    refine ⟨rfl, rfl, rfl, rfl, ?_, h3⟩
    rintro z s a w ⟨St, g, hW, hT, hKp⟩ hN hb _ hpre K Q hK
    subst hN; subst hb
    rw [if_pos (wanted_none hg)]
    obtain ⟨vals, hrun, hvl, hvr⟩ := run_call (P := P) (pre_tsim hT hpre) rfl hop hcal hfx hcb h2
    refine opUp (fun c e => by rw [hop] at e; cases e) ?_
    unfold Oper.wp
    rw [hrun, Oper.upon_enter]
    exact call_frame hW hT hKp rfl h1 (rel_gl (pre_tsim hT hpre)) hvl hvr hdN (fun _ _ _ _ h => h) (fun _ => rfl) rfl hpre hob hlent hnw fun x w' hs => hK _ _ hs
  · rename_i j want hg
    split at h
    case h_2 => cases h
    rename_i c hgc
    split at h
    case h_2 =>
      split at h
      case isFalse => cases h
      rename_i hct
      cases h
      obtain ⟨h1, h2, h3⟩ := cond2_ok hφ (fun h => by cases h) noOpt_obl
      refine ⟨rfl, rfl, rfl, rfl, ?_, h3⟩
      rintro z s a w ⟨St, g, hW, hT, hKp⟩ hN hb _ hpre K Q hK
      subst hN; subst hb
      rw [wanted_guard (pre_tsim hT hpre) hg hgc, if_pos hct]
      obtain ⟨vals, hrun, hvl, hvr⟩ := run_call (P := P) (pre_tsim hT hpre) rfl hop hcal hfx hcb h2
      refine opUp (fun c e => by rw [hop] at e; cases e) ?_
      unfold Oper.wp
      rw [hrun, Oper.upon_enter]
      exact call_frame hW hT hKp rfl h1 (rel_gl (pre_tsim hT hpre)) hvl hvr hdN (fun _ _ _ _ h => h) (fun _ => rfl) rfl hpre hob hlent hnw fun x w' hs => hK _ _ hs
    rename_i d hd e1 enw
    cases h
    obtain ⟨h1, h2, h3⟩ := cond2_ok hφ (fun h => by cases h) noOpt_obl
    refine ⟨rfl, rfl, rfl, by rw [e1], ?_, h3⟩
    rintro z s a w ⟨St, g, hW, hT, hKp⟩ hN hb _ hpre K Q hK
    subst hN; subst hb
    rw [wanted_guard (pre_tsim hT hpre) hg hgc]
    cases c with
    | true =>
      rw [if_pos rfl]
      obtain ⟨vals, hrun, hvl, hvr⟩ := run_call (P := P) (pre_tsim hT hpre) rfl hop hcal hfx hcb h2
      refine opUp (fun c e => by rw [hop] at e; cases e) ?_
      unfold Oper.wp
      rw [hrun, Oper.upon_enter, hd]
      rw [e1, enw] at hob
      rw [e1, enw] at hnw
      exact call_frame (v := .opt true cc.r) hW hT hKp rfl h1 (rel_gl (pre_tsim hT hpre)) hvl hvr (by rw [← hd]; exact hdN) (fun _ _ _ _ h => .opt _ _ _ _ (fun _ => h) (fun h => by cases h)) (fun _ => by simp [V.within]) (by simp [V.flat]) hpre hob hlent hnw fun x w' hs => hK _ _ hs
    | false =>
      rw [if_neg (by simp), hd]
      exact hK _ _ (put_pure hW hT hKp (by rw [← hd]; exact hdN) (.opt _ _ _ _ (fun h => by cases h) (fun _ => rfl)) _ _)

/-- The contract of an operation. -/
def OpSpec (P : Program) (op : Op) (ty : TypeId) (bk : List Nat) (h0 : Heap) (args : List V) (r : V) (h1 : Heap) : Prop :=
  ∀ (o : Oper), o.op = op → o.type = ty → ∀ (z : Start) (ρ : Operand → Value), WSim z z.St z.g h0 z.w → (∀ i, i < args.length → Rel z.St z.w z.g (args.getD i .any) (ρ (op.operands.toList.getD i (.const default)))) →
    ∃ nx x w' St' g', (execOp ρ o).run P z.w = .ok nx w' ∧ (nx = .value x ∨ (nx = .skip ∧ x = undef)) ∧ WSim z St' g' h1 w' ∧ Rel St' w' g' r x ∧ (∀ k, k ∈ bk → g' k = z.g k)

def isCall : Op → Bool
  | .call cl => match cl.callee with
    | .value _ => true
    | _ => false
  | _ => false
def notDefer : Op → Bool
  | .defer _ => false
  | _ => true
def effX (P : Program) (N : Nat) (b : List Nat) (t0 : List (Nat × V)) (h0 : Heap) (cc : CC) (o : Oper) : Option (Eff × Option Prop) :=
  if dstOk o N && o.guard.isNone && notDefer o.op && outB b cc.h1 cc.nw cc.r && (hids cc.h1).all (fun k => cc.nw.contains k || cc.keep.contains k) then
    some (⟨o.dst, cc.r, t0, [], h0, cc.h1, cc.nw⟩, cond2 false (OpSpec P o.op o.type cc.keep h0 cc.args cc.r cc.h1 ∧ VLes (o.op.operands.toList.map (ev t0)) cc.args) (noOpt t0 o.op.operands.toList) (obl true t0 o.op.operands.toList))
  else none

theorem effX_ok {P : Program} {ops : Array Oper} {N : Nat} {b : List Nat} {oo : Nat} {t0 : List (Nat × V)} {h0 : Heap} {cc : CC} {o : Oper} {e : Eff} {φ : Option Prop} {ψ : Prop} (h : effX P N b t0 h0 cc o = some (e, φ)) (hφ : andO φ ψ) :
    e.t0 = t0 ∧ e.hr = [] ∧ e.h0 = h0 ∧ e.h1 = cc.h1 ∧ EffOk P ops b N oo o e ∧ ψ := by
  unfold effX at h
  split at h
  case isFalse => cases h
  rename_i hc
  simp only [Bool.and_eq_true] at hc
  obtain ⟨⟨⟨⟨hdN, hg⟩, hnd⟩, hob⟩, hnw⟩ := hc
  have hdN := dN_of hdN
  have hg : o.guard = none := by simpa using hg
  cases h
  obtain ⟨⟨h1, h1'⟩, h2, h3⟩ := cond2_ok hφ (fun h => by cases h) noOpt_obl
  refine ⟨rfl, rfl, rfl, rfl, ?_, h3⟩
  rintro z s a w ⟨St, g, hW, hT, hKp⟩ hN hb _ hpre K Q hK
  subst hN; subst hb
  rw [if_pos (wanted_none hg)]
  have hcv := pre_cov hpre
  dsimp only at hcv
  have hin := frame_in hW hcv [] rfl
  have hT0 := pre_tsim hT hpre
  have E := rel_ev hT0 rfl h2
  have hlen := h1'.len
  rw [List.length_map] at hlen
  obtain ⟨nx, x, w', St', g', hrun, hnx, hW', hrx, hkeep⟩ := h1 o rfl rfl (subStart z St g s.h w h0 []) a.eval hin fun i hi => by
    have hi' : i < o.op.operands.toList.length := by omega
    have h4 := h1'.get i
    rw [getD_map _ _ _ _ (.const default) hi'] at h4
    refine h4 _ _ _ _ ?_
    refine (E _ ?_).mono (fun k hk => .inl hk) (fun _ _ => rfl)
    rw [List.getD_eq_getElem?_getD, List.getElem?_eq_getElem hi']
    exact List.getElem_mem hi'
  refine opUp (fun c e => by rw [e] at hnd; cases hnd) ?_
  unfold Oper.wp
  have hrun' : (execOp a.eval o).run P w = .ok nx w' := hrun
  have fin : K (a.put o.dst x) w' → Oper.upon P o a K Q (.ok nx w') := fun hs => by
    rcases hnx with rfl | ⟨rfl, rfl⟩
    · exact hs
    · exact hs
  rw [hrun']
  refine fin (hK _ _ (frame_out (d := o.dst) hW hT hKp hcv [] hdN hW' (fun _ => hrx) (fun k hk hnk => ?_) (outB_ok hob (.inl rfl) hpre.h1) rfl))
  have h4 := List.all_eq_true.1 hnw k hk
  simp only [Bool.or_eq_true, List.contains_eq_mem, decide_eq_true_eq] at h4
  exact hkeep k (h4.resolve_left hnk)

/-- The contract of one round. -/
def YSpec (P : Program) (y : Nat) (ids : List Nat) (C : YC) (bk : List Nat) (h0 : Heap) (args : List V) (k : Nat) (h1 : Heap) : Prop :=
  args.length = C.ps.size ∧ ∀ (ro : Option Nat) (z : Start) (vals : Array Value) (l : Nat) (r : Loop), WSim z z.St z.g ((y, .yld (some (ids, C)) 0) :: h0) z.w → z.g y = some (.func (.yield l) #[] #[]) → z.w.heap[l]? = some (.loop r) →
    vals.size = args.length → (∀ i, i < args.length → Rel z.St z.w z.g (args.getD i .any) (vals.getD i undef)) →
    RoundIn (WideR ro) 0 P l r.fn ((r.params.zip vals).foldl (fun tmps (t, a) => tmps.setIfInBounds t a) r.tmps) r.assign r.body z.w
      (fun e w' => ∃ St' g', e = .returned (.bool (k == 0)) ∧ WSim z St' g' ((y, .yld (some (ids, C)) k) :: h1) w' ∧ ∀ i, i ∈ y :: bk → g' i = z.g i)

/-- A call of yield. -/
def effY (P : Program) (ops : Array Oper) (N : Nat) (b : List Nat) (t0 : List (Nat × V)) (h0 : Heap) (cc : CC) (o : Oper) : Option (Eff × Option Prop) :=
  match o.op with
  | .call cl => match cl.callee with
    | .value f => match ev t0 f with
      | .own y => match h0, cc.h1 with
        | (y0, .yld (some (ids, C)) 0) :: h0', (y1, .yld _ k) :: h1' =>
          if dstOk o N && guardOn ops t0 o && Nat.beq y y0 && Nat.beq y y1 && outB b cc.h1 cc.nw cc.r && (hids cc.h1).all (fun k => cc.nw.contains k || Nat.beq k y || cc.keep.contains k) then
            some (⟨o.dst, cc.r, t0, [], h0, cc.h1, cc.nw⟩, cond2 false (cc.h1 = (y, .yld (some (ids, C)) k) :: h1' ∧ cc.r = .bool (k == 0) ∧ YSpec P y ids C cc.keep h0' cc.args k h1' ∧ VLes (cl.args.toList.map (ev t0)) cc.args) (noOpt t0 o.op.operands.toList) (obl true t0 o.op.operands.toList))
          else none
        | _, _ => none
      | _ => none
    | _ => none
  | _ => none

theorem effY_ok {P : Program} {ops : Array Oper} {N : Nat} {b : List Nat} {oo : Nat} {t0 : List (Nat × V)} {h0 : Heap} {cc : CC} {o : Oper} {e : Eff} {φ : Option Prop} {ψ : Prop} (h : effY P ops N b t0 h0 cc o = some (e, φ)) (hφ : andO φ ψ) :
    e.t0 = t0 ∧ e.hr = [] ∧ e.h0 = h0 ∧ e.h1 = cc.h1 ∧ EffOk P ops b N oo o e ∧ ψ := by
  unfold effY at h
  split at h
  case h_2 => cases h
  rename_i cl hop
  split at h
  case h_2 => cases h
  rename_i f hcal
  split at h
  case h_2 => cases h
  rename_i y hfx
  split at h
  case h_2 => cases h
  rename_i y0 ids C h0' y1 o1 k h1' hh1
  split at h
  case isFalse => cases h
  rename_i hc
  simp only [Bool.and_eq_true] at hc
  obtain ⟨⟨⟨⟨⟨hdN, hg⟩, hy0⟩, hy1⟩, hob⟩, hnw⟩ := hc
  have hdN := dN_of hdN
  have hy0 := Nat.eq_of_beq_eq_true hy0
  subst hy0
  cases h
  obtain ⟨⟨hc1, hcr, ⟨hps, hys⟩, hle⟩, h2, h3⟩ := cond2_ok hφ (fun h => by cases h) noOpt_obl
  refine ⟨rfl, rfl, rfl, rfl, ?_, h3⟩
  rintro z s a w ⟨St, g, hW, hT, hKp⟩ hN hb _ hpre K Q hK
  subst hN; subst hb
  rw [if_pos (wanted_on (pre_tsim hT hpre) hg)]
  have hcv := pre_cov hpre
  dsimp only at hcv
  have hin := frame_in hW hcv [] rfl
  have hT0 := pre_tsim hT hpre
  have E := rel_ev hT0 rfl h2
  rw [hop] at E
  have hfr := E f (by simp [Op.operands, Call.operands, hcal])
  rw [hfx] at hfr
  have hgy := hfr.own_inv
  obtain ⟨u, hgu, l, r, hu, hl, hyo⟩ := hin.ok y (.yld (some (ids, C)) 0) (by simp [Heap.get])
  rw [hgy] at hgu
  cases hgu
  have hlen := hle.len
  rw [List.length_map] at hlen
  have hpr : r.params = C.ps := hyo.2.1
  have hsz : (cl.args.map a.eval).size = r.params.size := by rw [hpr, ← hps, ← hlen]; simp
  have hrun : (execOp a.eval o).run P w = .ok (.round l r.fn ((r.params.zip (cl.args.map a.eval)).foldl (fun tmps (t, a) => tmps.setIfInBounds t a) r.tmps) r.assign r.body) w := by
    unfold execOp
    rw [hop]
    simp only [resolve, hcal, hu, Deferred.ofValue, Sem.run_bind, Sem.run_pure, Result.andThen_ok, invoke]
    have hy := run_yield (P := P) (args := cl.args.map a.eval) hl hsz
    simpa using hy
  refine ⟨fun _ _ => trivial, ?_⟩
  rw [show (WideR z.ro).round = z.ro from rfl, Oper.semAt_eq z.ro a.eval o (fun c e => by rw [hop] at e; cases e), hrun, Oper.uponIn_round]
  refine ⟨fun h => (by cases h), ?_⟩
  refine (hys z.ro (subStart z St g s.h w ((y, .yld (some (ids, C)) 0) :: h0') []) (cl.args.map a.eval) l r hin ?_ hl (by simp; omega) fun i hi => ?_).mono ?_
  · show g y = _
    rw [hgy, hu]
  · have hi' : i < cl.args.size := by rw [← hlen] at hi; simpa using hi
    have h4 := hle.get i
    rw [getD_map _ _ _ _ (.const default) (by simpa using hi')] at h4
    refine h4 _ _ _ _ ?_
    have h5 := E cl.args[i] (by simp [Op.operands, Call.operands, hcal])
    have h6 := h5.mono (St' := (subStart z St g s.h w ((y, .yld (some (ids, C)) 0) :: h0') []).St) (fun k hk => .inl hk) (fun _ _ => rfl)
    have e1 : (cl.args.toList.getD i (.const default)) = cl.args[i] := by simp [List.getD_eq_getElem?_getD, hi']
    have e2 : (cl.args.map a.eval).getD i undef = a.eval cl.args[i] := by simp [hi']
    rw [e1, e2]
    exact h6
  · rintro e w' ⟨St', g', rfl, hW', hkeep⟩
    refine hK _ _ (frame_out (d := o.dst) hW hT hKp hcv [] hdN (by rw [hc1]; exact hW') (fun _ => by rw [hcr]; exact .bool _ _) (fun k' hk hnk => ?_) (outB_ok hob (.inl rfl) hpre.h1) rfl)
    have h4 := List.all_eq_true.1 hnw k' hk
    simp only [Bool.or_eq_true, List.contains_eq_mem, decide_eq_true_eq] at h4
    rcases h4 with (h4 | h4) | h4
    · exact absurd h4 hnk
    · exact hkeep k' (by rw [Nat.eq_of_beq_eq_true h4]; exact List.mem_cons_self ..)
    · exact hkeep k' (List.mem_cons_of_mem _ h4)

/-- A value, known otherwise. -/
def effV (P : Program) (W : List Nat) (ops : Array Oper) (N : Nat) (t0 : List (Nat × V)) (hr : Heap) (r : V) (o : Oper) : Option (Eff × Option Prop) :=
  match effP P W ops N t0 hr o with
  | some (e, φ) => some (⟨e.d, r, e.t0, e.hr, e.h0, e.h1, e.nw⟩, some (match φ with | none => e.v = r | some p => p ∧ e.v = r))
  | none => none
theorem effV_ok {P : Program} {W : List Nat} {ops : Array Oper} {N : Nat} {b : List Nat} {oo : Nat} {t0 : List (Nat × V)} {hr : Heap} {r : V} {o : Oper} {e : Eff} {φ : Option Prop} {ψ : Prop} (h : effV P W ops N t0 hr r o = some (e, φ)) (hφ : andO φ ψ) :
    e.t0 = t0 ∧ e.hr = hr ∧ e.h0 = [] ∧ e.h1 = [] ∧ EffOk P ops b N oo o e ∧ ψ := by
  unfold effV at h
  split at h
  case h_2 => cases h
  rename_i e0 φ0 h0
  cases h
  have h1 : e0.v = r ∧ andO φ0 ψ := by
    cases φ0 with
    | none => exact hφ
    | some p => exact ⟨hφ.1.2, hφ.1.1, hφ.2⟩
  obtain ⟨rfl, h2⟩ := h1
  exact effP_ok h0 h2

/-- Does an operation look at own blocks? -/
def readsH : Op → Bool
  | .move _ => false
  | .assign _ => false
  | _ => true
/-! ### Whole regions -/
def effOf (P : Program) (W : List Nat) (ops : Array Oper) (calls : List (Nat × CC)) (s : S) (k : Nat) (o : Oper) : Option (Eff × Option Prop) :=
  let t0 := looksT ops s.t o (match calls.lookup k with | some cc => cc.gl | none => [])
  let ids := opIds t0 (needs o.op)
  match calls.lookup k with
  | some cc => if isCall o.op then (match effC P ops s.N s.b t0 (blks s.h cc.lent) (blks s.h cc.take) cc o with | some r => some r | none => effY P ops s.N s.b t0 (blks s.h cc.take) cc o) else match cc.lent with | [] => effX P s.N s.b t0 (blks s.h cc.take) cc o | _ => effV P W ops s.N t0 (blks s.h ids) cc.r o
  | none => match effP P W ops s.N t0 (blks s.h (if readsH o.op then ids else [])) o with
    | some r => some r
    | none => effH P ops s.N s.b s.o t0 (blks s.h (grow s.h 4 ids)) o

def preB (s : S) (e : Eff) : Bool := (hids e.h1).all fun k => (hids e.h0).contains k || (s.h.get k).isNone
def runE (P : Program) (W : List Nat) (ops : Array Oper) (calls : List (Nat × CC)) : Nat → List Oper → S → Option (S × List Eff × Prop)
  | _, [], s => some (s, [], True)
  | k, o :: l, s => match effOf P W ops calls s k o with
    | some (e, φ) => if preB s e then match runE P W ops calls (k + 1) l (afterE s e) with
      | some (s', es, ψ) => some (s', e :: es, andO φ ψ)
      | none => none
      else none
    | none => none

theorem looksT_ok (ops : Array Oper) (s : S) (o : Oper) (gl : List Nat) : ∀ p ∈ looksT ops s.t o gl, s.toF.T p.1 = p.2 := by
  intro p hp
  unfold looksT at hp
  rw [List.mem_filterMap] at hp
  obtain ⟨d, _, hd⟩ := hp
  split at hd <;> cases hd
  rfl
theorem looksT_known (ops : Array Oper) (t : List (Nat × V)) (o : Oper) (gl : List Nat) : (looksT ops t o gl).all (fun p => !p.2.isAny) = true := by
  rw [List.all_eq_true]
  intro p hp
  unfold looksT at hp
  rw [List.mem_filterMap] at hp
  obtain ⟨d, _, hd⟩ := hp
  split at hd <;> cases hd
  rename_i h
  simpa using h
theorem blks_ok (s : S) (ids : List Nat) : ∀ p ∈ blks s.h ids, ∃ b', s.toF.H p.1 = some b' ∧ BW b' p.2 := by
  intro p hp
  unfold blks at hp
  rw [List.mem_filterMap] at hp
  obtain ⟨r, _, hr⟩ := hp
  split at hr
  · rename_i b hb; cases hr; exact ⟨b, hb, .refl b⟩
  · cases hr

theorem effOf_ok {P : Program} {W : List Nat} {ops : Array Oper} {calls : List (Nat × CC)} {s : S} {k : Nat} {o : Oper} {e : Eff} {φ : Option Prop} {ψ : Prop} (h : effOf P W ops calls s k o = some (e, φ)) (hφ : andO φ ψ) (hb : preB s e = true) :
    EffOk P ops s.b s.N s.o o e ∧ s.toF.pre e ∧ knownT e = true ∧ ψ := by
  have hh1 : ∀ k, k ∈ hids e.h1 → k ∉ hids e.h0 → s.toF.H k = none := by
    intro k hk hk0
    have := List.all_eq_true.1 hb k hk
    simp only [Bool.or_eq_true, List.contains_eq_mem, decide_eq_true_eq, Option.isNone_iff_eq_none] at this
    exact this.resolve_left hk0
  unfold effOf at h
  dsimp only at h
  split at h
  · split at h
    · split at h
      rotate_left
      · obtain ⟨h1, h2, h3, h4, h5, h6⟩ := effY_ok h hφ
        exact ⟨h5, ⟨by rw [h1]; exact looksT_ok ops s o _, by rw [h2]; simp, by rw [h3]; exact blks_ok s _, hh1⟩, by unfold knownT; rw [h1]; exact looksT_known ops s.t o _, h6⟩
      rename_i r0 hr0
      cases h
      obtain ⟨h1, h2, h3, h4, h5, h6⟩ := effC_ok hr0 hφ
      exact ⟨h5, ⟨by rw [h1]; exact looksT_ok ops s o _, by rw [h2]; exact blks_ok s _, by rw [h3]; exact blks_ok s _, hh1⟩, by unfold knownT; rw [h1]; exact looksT_known ops s.t o _, h6⟩
    · split at h
      · obtain ⟨h1, h2, h3, h4, h5, h6⟩ := effX_ok h hφ
        exact ⟨h5, ⟨by rw [h1]; exact looksT_ok ops s o _, by rw [h2]; simp, by rw [h3]; exact blks_ok s _, hh1⟩, by unfold knownT; rw [h1]; exact looksT_known ops s.t o _, h6⟩
      · obtain ⟨h1, h2, h3, h4, h5, h6⟩ := effV_ok h hφ
        exact ⟨h5, ⟨by rw [h1]; exact looksT_ok ops s o _, by rw [h2]; exact blks_ok s _, by rw [h3]; simp, hh1⟩, by unfold knownT; rw [h1]; exact looksT_known ops s.t o _, h6⟩
  · split at h
    · rename_i r hr
      cases h
      obtain ⟨h1, h2, h3, h4, h5, h6⟩ := effP_ok hr hφ
      exact ⟨h5, ⟨by rw [h1]; exact looksT_ok ops s o _, by rw [h2]; exact blks_ok s _, by rw [h3]; simp, hh1⟩, by unfold knownT; rw [h1]; exact looksT_known ops s.t o _, h6⟩
    · obtain ⟨h1, h2, h3, h4, h5⟩ := effH_ok h hφ
      exact ⟨h4, ⟨by rw [h1]; exact looksT_ok ops s o _, by rw [h2]; simp, by rw [h3]; exact blks_ok s _, hh1⟩, by unfold knownT; rw [h1]; exact looksT_known ops s.t o _, h5⟩

theorem runE_ok {P : Program} {W : List Nat} {ops : Array Oper} {calls : List (Nat × CC)} {b : List Nat} {N oo : Nat} : ∀ (l : List Oper) (k : Nat) {s s' : S} {es : List Eff} {φ : Prop}, runE P W ops calls k l s = some (s', es, φ) → φ →
    s.b = b → s.N = N → s.o = oo → es.length = l.length ∧ (∀ (i : Nat) (o : Oper), l[i]? = some o → ∃ e, es[i]? = some e ∧ EffOk P ops b N oo o e) ∧ (∀ e ∈ es, knownT e = true) ∧
      ∀ (E : Nat → Option Eff), (∀ i, i < es.length → E (k + i) = es[i]?) → chain E s'.toF (List.range' k es.length) s.toF
  | [], k, s, s', es, φ, h, _, _, _, _ => by
    simp only [runE] at h; cases h
    exact ⟨rfl, by simp, by simp, fun E _ => rfl⟩
  | o :: l, k, s, s', es, φ, h, hφ, hb, hN, ho => by
    simp only [runE] at h
    split at h
    case h_2 => cases h
    rename_i e φ1 he
    split at h
    case isFalse => cases h
    rename_i hpb
    split at h
    case h_2 => cases h
    rename_i s2 es2 ψ hr
    cases h
    obtain ⟨h1, h2, h3, h4⟩ := effOf_ok he hφ hpb
    obtain ⟨g1, g2, g3, g4⟩ := runE_ok l (k + 1) hr h4 (b := b) (N := N) (oo := oo) hb hN ho
    refine ⟨by simp [g1], fun i o' hi => ?_, fun x hx => ?_, fun E hE => ?_⟩
    · cases i with
      | zero => simp at hi; subst hi; exact ⟨e, by simp, by rw [← hb, ← hN, ← ho]; exact h1⟩
      | succ i => simpa using g2 i o' (by simpa using hi)
    · rcases List.mem_cons.1 hx with rfl | hx
      · exact h3
      · exact g3 x hx
    · simp only [List.length_cons, List.range'_succ]
      refine ⟨e, by have := hE 0 (by simp); simpa using this, h2, ?_⟩
      rw [← toF_after]
      exact g4 E fun i hi => by
        have := hE (i + 1) (by simp; omega)
        simpa [Nat.add_assoc, Nat.add_comm 1 i] using this

def backB (ops : List Oper) : Bool := (List.range ops.length).all fun i => match ops[i]? with
  | some o => o.after.all fun e => !Region.binds .any e || decide (e.on < i)
  | none => true
def befL (ops : List Oper) : Nat → Nat → Oper → Bool
  | 0, _, _ => false
  | n + 1, j, o => o.after.any fun x => Region.binds .any x && (x.on == j || match ops[x.on]? with
    | some o' => befL ops n j o'
    | none => false)
theorem befL_ok {ops : List Oper} : ∀ (n : Nat) {j i : Nat} {o : Oper}, ops[i]? = some o → befL ops n j o = true → Bef ops.toArray j i
  | 0, _, _, _, _, h => by cases h
  | n + 1, j, i, o, hi, h => by
    unfold befL at h
    obtain ⟨x, hx, h2⟩ := Array.any_eq_true'.1 h
    rw [Bool.and_eq_true, Bool.or_eq_true] at h2
    rcases h2.2 with h3 | h3
    · exact .one (by simpa using hi) hx h2.1 (by simpa using h3)
    · split at h3
      · rename_i o' ho'
        exact .step (by simpa using hi) hx h2.1 (befL_ok n ho' h3)
      · cases h3
/-- what comes behind operation j, found in one sweep -/
def befR : List Oper → Nat → List Nat → List Nat
  | [], _, R => R
  | o :: l, k, R => match o.after.any fun x => Region.binds .any x && R.any (· == x.on) with
    | true => befR l (k + 1) (k :: R)
    | false => befR l (k + 1) R
theorem befR_ok {ops : List Oper} {j : Nat} : ∀ (l : List Oper) (k : Nat) (R : List Nat), (∀ n, l[n]? = ops[k + n]?) → (∀ r ∈ R, r = j ∨ Bef ops.toArray j r) → ∀ r ∈ befR l k R, r = j ∨ Bef ops.toArray j r
  | [], _, _, _, hR => hR
  | o :: l, k, R, hl, hR => by
    have ho : ops[k]? = some o := by simpa using (hl 0).symm
    have hl' : ∀ n, l[n]? = ops[k + 1 + n]? := fun n => by have := hl (n + 1); simpa [Nat.add_assoc, Nat.add_comm 1 n] using this
    unfold befR
    split
    · rename_i h
      refine befR_ok l (k + 1) (k :: R) hl' fun r hr => ?_
      rcases List.mem_cons.1 hr with rfl | hr
      · obtain ⟨x, hx, h2⟩ := Array.any_eq_true'.1 h
        rw [Bool.and_eq_true, List.any_eq_true] at h2
        obtain ⟨hb, y, hy, hxy⟩ := h2
        have hxy : y = x.on := by simpa using hxy
        rcases hR y hy with h3 | h3
        · exact .inr (.one (by simpa using ho) hx hb (hxy ▸ h3))
        · exact .inr (.step (by simpa using ho) hx hb (hxy ▸ h3))
      · exact hR r hr
    · exact befR_ok l (k + 1) R hl' hR
theorem befR_lt {ops : List Oper} {i j : Nat} (hj : j < i) (h : (befR (ops.drop (j + 1)) (j + 1) [j]).any (· == i) = true) : Bef ops.toArray j i := by
  obtain ⟨r, hr, h2⟩ := List.any_eq_true.1 h
  have h2 : r = i := by simpa using h2
  subst h2
  rcases befR_ok (ops := ops) _ _ _ (fun n => by simp [List.getElem?_drop]) (fun r hr => .inl (by simpa using hr)) r hr with h3 | h3
  · omega
  · exact h3
def commB (ops : List Oper) (es : List Eff) : Bool := (List.range ops.length).all fun i => match ops[i]?, es[i]? with
  | some o, some e => (List.range i).all fun j => o.after.any (fun x => Region.binds .any x && x.on == j) || (match es[j]? with
    | some e' => off e e' && off e' e
    | none => true) || (befL ops 3 j o || (befR (ops.drop (j + 1)) (j + 1) [j]).any (· == i))
  | _, _ => true

theorem AWp.draw {P : Program} (W : List Nat) {Q : Exit → S → Prop} {id : Nat} (calls : List (Nat × CC)) (ds rs : List Nat) {l : List Oper} {s s' : S} {es : List Eff} {φ : Prop} (hm : P.follows .mixedOrders = true)
    (h : runE P W l.toArray calls 0 l s = some (s', es, φ)) (hφ : φ) (hb : backB l = true) (hc : commB l es = true) (hQ : Q .normal (proj s' ds rs)) : AWp P (.region id l.toArray true) Q s := by
  obtain ⟨h1, h2, h3, h4⟩ := runE_ok l 0 h hφ rfl rfl rfl
  have hQ' : AWp P (.region id l.toArray true) (fun e t => e = .normal ∧ t = s') s := by
    refine AWp.any (E := fun i => es[i]?) hm ⟨fun i o hi => h2 i o (by simpa using hi), fun j e he => h3 e (List.mem_of_getElem? he), fun i o hi e he hbd => ?_, fun j i oi e' e hj hi he' he => ?_⟩ (fin := s') ?_ ⟨rfl, rfl⟩
    · have hi' : l[i]? = some o := by simpa using hi
      have hlt := (List.getElem?_eq_some_iff.1 hi').1
      have := List.all_eq_true.1 hb i (List.mem_range.2 hlt)
      rw [hi'] at this
      have := Array.all_eq_true_iff_forall_mem.1 this e he
      rw [hbd] at this
      simpa using this
    · have hi' : l[i]? = some oi := by simpa using hi
      have hlt := (List.getElem?_eq_some_iff.1 hi').1
      have := List.all_eq_true.1 hc i (List.mem_range.2 hlt)
      rw [hi', he] at this
      have := List.all_eq_true.1 this j (List.mem_range.2 hj)
      rw [he', Bool.or_eq_true, Bool.or_eq_true, Bool.and_eq_true] at this
      rcases this with (h5 | h5) | h5
      · obtain ⟨x, hx, hx2⟩ := Array.any_eq_true'.1 h5
        rw [Bool.and_eq_true, beq_iff_eq] at hx2
        exact .inl (.one hi hx hx2.1 hx2.2)
      · exact .inr ⟨off_spec h5.1, off_spec h5.2⟩
      · rcases Bool.or_eq_true .. |>.mp h5 with h6 | h6
        · exact .inl (befL_ok 3 hi' h6)
        · exact .inl (befR_lt hj h6)
    · have := h4 (fun i => es[i]?) (fun i _ => by simp)
      rw [h1, ← List.range_eq_range'] at this
      simpa using this
  intro z a w hs
  refine wpIn_mono (hQ' z a w hs) fun e a' w' ⟨t, ⟨he, ht⟩, hs'⟩ => ?_
  subst he; subst ht
  exact ⟨_, hQ, Le.proj t ds rs z a' w' hs'⟩

theorem runE_wp {P : Program} {W : List Nat} {ops : Array Oper} {calls : List (Nat × CC)} {Q : Exit → S → Prop} : ∀ (l : List Oper) (k : Nat) {s s' : S} {es : List Eff} {φ : Prop}, runE P W ops calls k l s = some (s', es, φ) → φ → Q .normal s' → AOps P ops Q l s
  | [], k, s, s', es, φ, h, _, hQ => by simp only [runE] at h; cases h; exact .nil hQ
  | o :: l, k, s, s', es, φ, h, hφ, hQ => by
    simp only [runE] at h
    split at h
    case h_2 => cases h
    rename_i e φ1 he
    split at h
    case isFalse => cases h
    rename_i hpb
    split at h
    case h_2 => cases h
    rename_i s2 es2 ψ hr
    cases h
    obtain ⟨h1, h2, h3, h4⟩ := effOf_ok he hφ hpb
    intro z a w hs
    refine wpListIn_step fun K hKK => ?_
    have := h1 z s a w hs rfl rfl rfl h2 K (Post z Q) fun a' w' hs' => hKK _ _ (runE_wp l (k + 1) hr h4 hQ z a' w' hs')
    split
    · rename_i hw; rw [if_pos hw] at this; exact this
    · rename_i hw; rw [if_neg hw] at this; exact ⟨fun _ _ => trivial, this⟩
theorem AWp.text {P : Program} (W : List Nat) {Q : Exit → S → Prop} {id : Nat} (calls : List (Nat × CC)) (ds rs : List Nat) {l : List Oper} {s s' : S} {es : List Eff} {φ : Prop}
    (h : runE P W l.toArray calls 0 l s = some (s', es, φ)) (hφ : φ) (hQ : Q .normal (proj s' ds rs)) : AWp P (.region id l.toArray false) Q s := by
  have hQ' : AWp P (.region id l.toArray false) (fun e t => e = .normal ∧ t = s') s := .region (runE_wp l 0 h hφ ⟨rfl, rfl⟩)
  intro z a w hs
  refine wpIn_mono (hQ' z a w hs) fun e a' w' ⟨t, ⟨he, ht⟩, hs'⟩ => ?_
  subst he; subst ht
  exact ⟨_, hQ, Le.proj t ds rs z a' w' hs'⟩

/-- A region with what is kept behind it. -/
def regC (P : Program) (W : List Nat) (draw : Bool) (calls : List (Nat × CC)) (ds rs : List Nat) (l : List Oper) (s : S) : Option (S × Prop) :=
  match runE P W l.toArray calls 0 l s with
  | some (s', es, φ) => if !draw || (backB l && commB l es) then some (proj s' ds rs, φ) else none
  | none => none
theorem AWp.regC {P : Program} (W : List Nat) {Q : Exit → S → Prop} {id : Nat} {draw : Bool} (calls : List (Nat × CC)) (ds rs : List Nat) {l : List Oper} {s : S} (s' : S) (φ : Prop) (hm : P.follows .mixedOrders = true)
    (h : regC P W draw calls ds rs l s = some (s', φ)) (hφ : φ) (hQ : Q .normal s') : AWp P (.region id l.toArray draw) Q s := by
  unfold Abs.regC at h
  split at h
  case h_2 => cases h
  rename_i s1 es φ1 hr
  split at h
  case isFalse => cases h
  rename_i hc
  cases h
  cases draw with
  | true =>
    simp only [Bool.not_true, Bool.false_or, Bool.and_eq_true] at hc
    exact .draw W calls ds rs hm hr hφ hc.1 hc.2 hQ
  | false => exact .text W calls ds rs hr hφ hQ

/-- A state's heap as a contract wants it. -/
theorem Spec.heap {P : Program} {f : FuncId} {gs : List (Nat × V)} {bk : List Nat} {h0 h0' : Heap} {args : List V} {R : V → Heap → Prop} (h : Spec P f gs bk h0' args R) (hc : hcov h0 h0') : Spec P f gs bk h0 args R :=
  fun z vals h1 h2 h3 => h z vals (h1.less fun r b' hb' => by obtain ⟨b, h4, h5⟩ := hcov_get hc r b' hb'; exact ⟨b, h4, fun v hv => h5 _ _ _ _ hv⟩) h2 h3

end Go.Abs
