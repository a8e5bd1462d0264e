/- Operations that come up in any order: states as functions, effects that commute. -/
import Derived.Test.YtmcmhjdmilgoeaaGreatDoorAbsO
import Derived.Orders
namespace Go.Abs
open Go

def V.freshL (ks : List Nat) (v : V) : Bool := ks.all fun r => v.fresh r
def Blk.freshL (ks : List Nat) (b : Blk) : Bool := ks.all fun r => b.fresh r
def dropsV (ks : List Nat) (v : V) : V := if v.freshL ks then v else .any
def Blk.drops (ks : List Nat) : Blk → Blk
  | .cells t cs => .cells t (cs.map (dropsV ks))
  | .yld o k => .yld (yoCut ((yoIds o).any ks.contains) o) k
  | b => b
theorem V.isAny_fresh (r : Nat) : V.fresh r .any = true := rfl
theorem V.any_freshL (ks : List Nat) : V.freshL ks .any = true := by simp [V.freshL, V.fresh]
theorem dropsV_nil (v : V) : dropsV [] v = v := by simp [dropsV, V.freshL]
theorem dropsV_any (ks : List Nat) : dropsV ks .any = .any := by unfold dropsV; split <;> rfl
theorem dropsV_or (ks : List Nat) (v : V) : dropsV ks v = v ∨ dropsV ks v = .any := by unfold dropsV; split <;> simp
theorem dropsV_fresh {ks : List Nat} {v : V} (h : v.freshL ks = true) : dropsV ks v = v := by simp [dropsV, h]
theorem dropsV_comm (k1 k2 : List Nat) (v : V) : dropsV k1 (dropsV k2 v) = dropsV k2 (dropsV k1 v) := by
  cases h1 : v.freshL k1 <;> cases h2 : v.freshL k2
  · simp [dropsV, h1, h2, V.any_freshL]
  · simp [dropsV, h1, h2, V.any_freshL]
  · simp [dropsV, h1, h2, V.any_freshL]
  · simp [dropsV, h1, h2]
theorem yoCut_cut (b1 b2 : List Nat → Bool) (h1 : b1 [] = false) (_h2 : b2 [] = false) (o : Option (List Nat × YC)) : yoCut (b1 (yoIds (yoCut (b2 (yoIds o)) o))) (yoCut (b2 (yoIds o)) o) = yoCut (b1 (yoIds o) || b2 (yoIds o)) o := by
  cases h3 : b2 (yoIds o)
  · have e : yoCut false o = o := rfl
    rw [e, Bool.or_false]
  · have e : yoCut true o = none := rfl
    rw [e, Bool.or_true, e]
    show yoCut (b1 []) none = none
    rw [h1]; rfl
theorem Blk.drops_nil (b : Blk) : b.drops [] = b := by cases b <;> simp [Blk.drops, funext dropsV_nil, yoCut]
theorem Blk.drops_comm (k1 k2 : List Nat) (b : Blk) : (b.drops k1).drops k2 = (b.drops k2).drops k1 := by
  cases b <;> simp only [Blk.drops]
  case yld o k => rw [yoCut_cut (fun l => l.any k2.contains) (fun l => l.any k1.contains) rfl rfl, yoCut_cut (fun l => l.any k1.contains) (fun l => l.any k2.contains) rfl rfl, Bool.or_comm]
  all_goals simp [Function.comp_def, dropsV_comm k2 k1]
theorem freshL_all {ks : List Nat} {cs : List V} (h : ks.all (fun r => V.freshAll r cs) = true) : ∀ v ∈ cs, v.freshL ks = true := by
  intro v hv
  unfold V.freshL
  rw [List.all_eq_true] at h ⊢
  intro r hr
  have := h r hr
  obtain ⟨i, hi, rfl⟩ := List.getElem_of_mem hv
  have h2 := V.freshAll_get (i := i) this
  simpa [List.getD_eq_getElem?_getD, hi] using h2
theorem Blk.drops_fresh {ks : List Nat} {b : Blk} (h : b.freshL ks = true) : b.drops ks = b := by
  cases b with
  | rows => rfl
  | iter => rfl
  | siter => rfl
  | mapB => rfl
  | yld o k =>
    have : (yoIds o).any ks.contains = false := by
      rw [List.any_eq_false]
      intro i hi hc
      have h2 := List.all_eq_true.1 h i (by simpa using hc)
      simp only [Blk.fresh, Bool.not_eq_true', List.contains_eq_mem, decide_eq_false_iff_not] at h2
      exact h2 hi
    simp only [Blk.drops, this, yoCut, Bool.false_eq_true, if_false]
  | cells t cs =>
    simp only [Blk.drops, Blk.cells.injEq, true_and]
    have h2 := freshL_all (cs := cs) h
    calc cs.map (dropsV ks) = cs.map id := List.map_congr_left fun v hv => dropsV_fresh (h2 v hv)
      _ = cs := by simp

theorem dropsV_cons (d : Nat) (ks : List Nat) (v : V) : (if V.fresh d (dropsV ks v) then dropsV ks v else .any) = dropsV (d :: ks) v := by
  have e : V.freshL (d :: ks) v = (V.fresh d v && V.freshL ks v) := rfl
  unfold dropsV
  rw [e]
  cases h2 : v.freshL ks
  · simp [V.fresh]
  · simp
theorem tget_drops (ks : List Nat) (k : Nat) (t : List (Nat × V)) : tget (tdrops ks t) k = dropsV ks (tget t k) := by
  induction ks with
  | nil => simp [tdrops, dropsV_nil]
  | cons d ks ih =>
    show tget (tdrop d (tdrops ks t)) k = _
    rw [tget_drop, ih]
    exact dropsV_cons d ks _
theorem get_drops (ks : List Nat) (k : Nat) (h : Heap) : Heap.get (hdrops ks h) k = (h.get k).map (Blk.drops ks) := by
  induction ks with
  | nil => simp [hdrops, funext Blk.drops_nil]
  | cons d ks ih =>
    show Heap.get (hdrop d (hdrops ks h)) k = _
    rw [get_hdrop, ih, Option.map_map]
    congr 1
    funext b
    cases b with
    | rows => rfl
    | iter => rfl
    | siter => rfl
    | mapB => rfl
    | yld o k =>
      simp only [Function.comp, Blk.drops, Blk.drop]
      rw [yoCut_cut (fun l => l.contains d) (fun l => l.any ks.contains) rfl rfl]
      congr 2
      rw [Bool.eq_iff_iff]
      simp only [Bool.or_eq_true, List.any_eq_true, List.contains_eq_mem, decide_eq_true_eq, List.mem_cons]
      constructor
      · rintro (h | ⟨x, h1, h2⟩)
        · exact ⟨d, h, .inl rfl⟩
        · exact ⟨x, h1, .inr h2⟩
      · rintro ⟨x, h1, rfl | h2⟩
        · exact .inl h1
        · exact .inr ⟨x, h1, h2⟩
    | cells t cs =>
      simp only [Function.comp, Blk.drops, Blk.drop, List.map_map, Blk.cells.injEq, true_and]
      refine List.map_congr_left fun v _ => ?_
      exact dropsV_cons d ks v

/-- A block that is known less of. -/
def BW : Blk → Blk → Prop
  | .cells t cs, .cells t' cs' => t = t' ∧ cs.length = cs'.length ∧ ∀ i, cs'.getD i .any = .any ∨ cs.getD i .any = cs'.getD i .any
  | .yld o k, .yld o' k' => k = k' ∧ (o' = none ∨ o = o')
  | b, b' => b = b'
theorem BW.refl (b : Blk) : BW b b := by cases b <;> simp [BW]
theorem BW.ble {b b' : Blk} (h : BW b b') : BLe b b' := by
  cases b <;> cases b' <;> simp only [BW] at h
  · obtain ⟨rfl, hl, h⟩ := h
    refine .cells hl fun i _ => ?_
    rcases h i with e | e <;> rw [e]
    · exact .any _
    · exact .refl _
  case yld.yld o k o' k' =>
    obtain ⟨rfl, h⟩ := h
    rcases h with rfl | rfl
    · rintro St w g v ⟨l, r, h1, h2, _⟩
      exact ⟨l, r, h1, h2, trivial⟩
    · exact .refl _
  all_goals (cases h; try exact .refl _)
theorem BW.rows {b' : Blk} {e : TypeId} {sz n : Nat} {f : Nat → Nat → V} (h : BW b' (.rows e sz n f)) : b' = .rows e sz n f := by
  cases b' <;> simp [BW] at h ⊢ <;> exact h
theorem getD_drops (ks : List Nat) (cs : List V) (i : Nat) : (cs.map (dropsV ks)).getD i .any = dropsV ks (cs.getD i .any) := by
  by_cases h : i < cs.length
  · simp [List.getD_eq_getElem?_getD, h]
  · simp [List.getD_eq_getElem?_getD, List.getElem?_eq_none (Nat.le_of_not_lt h), dropsV_any]
theorem BW.undrop {ks : List Nat} {b b' : Blk} (h : BW (b.drops ks) b') : BW b b' := by
  cases b <;> cases b' <;> simp only [BW, Blk.drops] at h ⊢
  · refine ⟨h.1, by simpa using h.2.1, fun i => ?_⟩
    rcases h.2.2 i with e | e
    · exact .inl e
    · rw [getD_drops] at e
      rcases dropsV_or ks (List.getD _ i .any) with e2 | e2
      · rw [e2] at e; exact .inr e
      · rw [e2] at e; exact .inl e.symm
  case yld.yld o k o' k' =>
    refine ⟨h.1, ?_⟩
    rcases h.2 with h | h
    · exact .inl h
    · unfold yoCut at h; split at h
      · exact .inl h.symm
      · exact .inr h
  all_goals first | exact h | (cases h; done)
theorem Blk.fresh_get {ks : List Nat} {t : TypeId} {cs : List V} (h : Blk.freshL ks (.cells t cs) = true) (i : Nat) : (cs.getD i .any).freshL ks = true := by
  unfold V.freshL
  unfold Blk.freshL at h
  rw [List.all_eq_true] at h ⊢
  intro r hr
  exact V.freshAll_get (h r hr)
theorem BW.drop {ks : List Nat} {b b' : Blk} (h : BW b b') (hf : b'.freshL ks = true) : BW (b.drops ks) b' := by
  cases b <;> cases b' <;> simp only [BW, Blk.drops] at h ⊢
  · refine ⟨h.1, by simpa using h.2.1, fun i => ?_⟩
    rw [getD_drops]
    rcases h.2.2 i with e | e
    · exact .inl e
    · rw [e]; exact .inr (dropsV_fresh (Blk.fresh_get hf i))
  case yld.yld o k o' k' =>
    refine ⟨h.1, ?_⟩
    rcases h.2 with h | rfl
    · exact .inl h
    · have := Blk.drops_fresh hf
      simp only [Blk.drops, Blk.yld.injEq, and_true] at this
      exact .inr this
  all_goals first | exact h | (cases h; done)

/-- A state as functions. -/
structure FS where
  N : Nat
  T : Nat → V
  H : Nat → Option Blk
  b : List Nat
  o : Nat
def S.toF (s : S) : FS := ⟨s.N, tget s.t, Heap.get s.h, s.b, s.o⟩
def FSim (z : Start) (f : FS) (a : Act) (w : World) : Prop := ∃ s, Sim z s a w ∧ s.toF = f
theorem Sim.of_toF {z : Start} {s s' : S} {a : Act} {w : World} (h : Sim z s a w) (e : s.toF = s'.toF) : Sim z s' a w := by
  obtain ⟨N, t, hh, b, o⟩ := s
  obtain ⟨N', t', hh', b', o'⟩ := s'
  simp only [S.toF, FS.mk.injEq] at e
  obtain ⟨rfl, et, eh, rfl, rfl⟩ := e
  obtain ⟨St, g, hW, hT, hK⟩ := h
  exact ⟨St, g, hW.less fun r b hb => ⟨b, by show Heap.get hh r = some b; rw [eh]; exact hb, fun _ h => h⟩, ⟨hT.1, hT.2.1, fun d => by rw [← et]; exact hT.2.2 d⟩, hK⟩
theorem FSim.sim {z : Start} {s : S} {a : Act} {w : World} (h : FSim z s.toF a w) : Sim z s a w := by
  obtain ⟨s', h, e⟩ := h; exact h.of_toF e

def FS.post (f : FS) (e : Eff) : FS := ⟨f.N, fun d => if e.d = some d then e.v else dropsV e.nw (f.T d),
  fun r => match e.h1.get r with
    | some b => some b
    | none => if r ∈ hids e.h0 then none else (f.H r).map (Blk.drops e.nw), f.b, f.o⟩
structure FS.pre (f : FS) (e : Eff) : Prop where
  t0 : ∀ p ∈ e.t0, f.T p.1 = p.2
  hr : ∀ p ∈ e.hr, ∃ b', f.H p.1 = some b' ∧ BW b' p.2
  h0 : ∀ p ∈ e.h0, ∃ b', f.H p.1 = some b' ∧ BW b' p.2
  h1 : ∀ k, k ∈ hids e.h1 → k ∉ hids e.h0 → f.H k = none

theorem toF_after (s : S) (e : Eff) : (afterE s e).toF = s.toF.post e := by
  simp only [S.toF, afterE, FS.post, FS.mk.injEq, true_and, and_true]
  refine ⟨funext fun d => ?_, funext fun r => ?_⟩
  · cases hd : e.d with
    | some k => simp only [putT, tget, tget_drops, Option.some.injEq]
    | none => simp only [putT, tget_drops]; simp
  · rw [Heap.get_append, get_drops, get_dels]
    cases hb : e.h1.get r with
    | some b => rfl
    | none =>
      dsimp only
      split <;> rfl

/-- The values that an effect looks at are known. -/
def V.isAny : V → Bool
  | .any => true
  | _ => false
def knownT (e : Eff) : Bool := e.t0.all fun p => !p.2.isAny

def Eff.touch (e : Eff) : List Nat := hids e.h0 ++ hids e.h1
def Eff.ids (e : Eff) : List Nat := hids e.hr ++ hids e.h0 ++ hids e.h1
/-- 'e' leaves alone what 'e'' looks at and gives. -/
def off (e e' : Eff) : Bool :=
  (match e.d with
    | some d => !(e'.d == some d) && e'.t0.all (fun p => !(p.1 == d))
    | none => true) &&
  e.touch.all (fun k => !e'.ids.contains k) &&
  e'.v.freshL e.nw && e'.t0.all (fun p => p.2.freshL e.nw) && e'.hr.all (fun p => p.2.freshL e.nw) && e'.h0.all (fun p => p.2.freshL e.nw) && e'.h1.all (fun p => p.2.freshL e.nw)
structure Off (e e' : Eff) : Prop where
  d : ∀ d, e.d = some d → e'.d ≠ some d ∧ ∀ p ∈ e'.t0, p.1 ≠ d
  ids : ∀ k, k ∈ hids e.h0 ∨ k ∈ hids e.h1 → k ∉ hids e'.hr ∧ k ∉ hids e'.h0 ∧ k ∉ hids e'.h1
  v : e'.v.freshL e.nw = true
  t0 : ∀ p ∈ e'.t0, p.2.freshL e.nw = true
  hr : ∀ p ∈ e'.hr, p.2.freshL e.nw = true
  h0 : ∀ p ∈ e'.h0, p.2.freshL e.nw = true
  h1 : ∀ p ∈ e'.h1, p.2.freshL e.nw = true
theorem off_spec {e e' : Eff} (h : off e e' = true) : Off e e' := by
  unfold off at h
  simp only [Bool.and_eq_true, List.all_eq_true] at h
  obtain ⟨⟨⟨⟨⟨⟨h1, h2⟩, h3⟩, h4⟩, h5⟩, h6⟩, h7⟩ := h
  refine ⟨fun d hd => ?_, fun k hk => ?_, h3, h4, h5, h6, h7⟩
  · rw [hd] at h1
    simp only [Bool.and_eq_true, Bool.not_eq_true', beq_eq_false_iff_ne, List.all_eq_true] at h1
    exact ⟨h1.1, fun p hp => h1.2 p hp⟩
  · have := h2 k (by unfold Eff.touch; exact List.mem_append.2 hk)
    simp only [Bool.not_eq_true', List.contains_eq_mem, decide_eq_false_iff_not, Eff.ids, List.mem_append, not_or] at this
    exact ⟨this.1.1, this.1.2, this.2⟩

theorem mem_hids_of {h : Heap} {p : Nat × Blk} (hp : p ∈ h) : p.1 ∈ hids h := List.mem_map.2 ⟨p, hp, rfl⟩
theorem get_none_of {h : Heap} {k : Nat} (hk : k ∉ hids h) : h.get k = none := by
  cases hc : h.get k with
  | none => rfl
  | some c => exact absurd (Heap.get_mem hc) hk
theorem get_mem2 {h : Heap} {k : Nat} {b : Blk} (hk : h.get k = some b) : (k, b) ∈ h := by
  induction h with
  | nil => simp [Heap.get] at hk
  | cons p h ih =>
    obtain ⟨a, c⟩ := p
    simp only [Heap.get] at hk
    split at hk
    · rename_i ha; subst ha; cases hk; simp
    · exact List.mem_cons_of_mem _ (ih hk)

theorem post_H_off {f : FS} {e e' : Eff} (ho : Off e e') {k : Nat} (hk : k ∈ hids e'.hr ∨ k ∈ hids e'.h0 ∨ k ∈ hids e'.h1) : (f.post e).H k = (f.H k).map (Blk.drops e.nw) := by
  have h0 : k ∉ hids e.h0 := fun h => by
    have := ho.ids k (.inl h)
    rcases hk with h | h | h
    · exact this.1 h
    · exact this.2.1 h
    · exact this.2.2 h
  have h1 : k ∉ hids e.h1 := fun h => by
    have := ho.ids k (.inr h)
    rcases hk with h | h | h
    · exact this.1 h
    · exact this.2.1 h
    · exact this.2.2 h
  simp [FS.post, get_none_of h1, h0]

theorem post_T_off {f : FS} {e e' : Eff} (ho : Off e e') {p : Nat × V} (hp : p ∈ e'.t0) : (f.post e).T p.1 = dropsV e.nw (f.T p.1) := by
  have : e.d ≠ some p.1 := fun h => (ho.d _ h).2 p hp rfl
  simp [FS.post, this]

theorem pre_back {f : FS} {e e' : Eff} (hkn : knownT e' = true) (ho : Off e e') (h : (f.post e).pre e') : f.pre e' := by
  refine ⟨fun p hp => ?_, fun p hp => ?_, fun p hp => ?_, fun k hk hk0 => ?_⟩
  · have h1 := h.t0 p hp
    rw [post_T_off ho hp] at h1
    rcases dropsV_or e.nw (f.T p.1) with e2 | e2
    · rw [e2] at h1; exact h1
    · rw [e2] at h1
      have := List.all_eq_true.1 hkn p hp
      rw [← h1] at this; simp [V.isAny] at this
  · obtain ⟨b', h1, h2⟩ := h.hr p hp
    rw [post_H_off ho (.inl (mem_hids_of hp)), Option.map_eq_some_iff] at h1
    obtain ⟨b0, h3, rfl⟩ := h1
    exact ⟨b0, h3, h2.undrop⟩
  · obtain ⟨b', h1, h2⟩ := h.h0 p hp
    rw [post_H_off ho (.inr (.inl (mem_hids_of hp))), Option.map_eq_some_iff] at h1
    obtain ⟨b0, h3, rfl⟩ := h1
    exact ⟨b0, h3, h2.undrop⟩
  · have h1 := h.h1 k hk hk0
    rw [post_H_off ho (.inr (.inr hk)), Option.map_eq_none_iff] at h1
    exact h1
theorem pre_fwd {f : FS} {e e' : Eff} (ho : Off e e') (h : f.pre e') : (f.post e).pre e' := by
  refine ⟨fun p hp => ?_, fun p hp => ?_, fun p hp => ?_, fun k hk hk0 => ?_⟩
  · rw [post_T_off ho hp, h.t0 p hp]; exact dropsV_fresh (ho.t0 p hp)
  · obtain ⟨b', h1, h2⟩ := h.hr p hp
    exact ⟨_, by rw [post_H_off ho (.inl (mem_hids_of hp)), h1]; rfl, h2.drop (ho.hr p hp)⟩
  · obtain ⟨b', h1, h2⟩ := h.h0 p hp
    exact ⟨_, by rw [post_H_off ho (.inr (.inl (mem_hids_of hp))), h1]; rfl, h2.drop (ho.h0 p hp)⟩
  · rw [post_H_off ho (.inr (.inr hk)), h.h1 k hk hk0]; rfl
theorem post_comm {f : FS} {e e' : Eff} (ho : Off e e') (ho' : Off e' e) : (f.post e).post e' = (f.post e').post e := by
  have hT : ∀ d, ((f.post e).post e').T d = ((f.post e').post e).T d := by
    intro d
    simp only [FS.post]
    by_cases h1 : e'.d = some d
    · have h2 : e.d ≠ some d := fun h => (ho.d d h).1 h1
      simp [h1, h2, dropsV_fresh ho.v]
    · by_cases h2 : e.d = some d
      · simp [h1, h2, dropsV_fresh ho'.v]
      · simp [h1, h2, dropsV_comm e.nw e'.nw]
  have hH : ∀ r, ((f.post e).post e').H r = ((f.post e').post e).H r := by
    intro r
    by_cases h1 : r ∈ hids e'.h1
    · have h2 := ho'.ids r (.inr h1)
      obtain ⟨b, hb⟩ := Heap.mem_get h1
      have h3 : r ∉ hids e.h1 := h2.2.2
      have := Blk.drops_fresh (ho.h1 _ (get_mem2 hb))
      simp [FS.post, hb, get_none_of h3, h2.2.1, this]
    · by_cases h2 : r ∈ hids e.h1
      · have h3 := ho.ids r (.inr h2)
        obtain ⟨b, hb⟩ := Heap.mem_get h2
        have := Blk.drops_fresh (ho'.h1 _ (get_mem2 hb))
        simp [FS.post, hb, get_none_of h1, h3.2.1, this]
      · by_cases h3 : r ∈ hids e'.h0
        · simp [FS.post, get_none_of h1, get_none_of h2, h3]
        · by_cases h4 : r ∈ hids e.h0
          · simp [FS.post, get_none_of h1, get_none_of h2, h4]
          · simp [FS.post, get_none_of h1, get_none_of h2, h3, h4, Option.map_map, Function.comp_def, Blk.drops_comm e.nw e'.nw]
  have key : ∀ x y : FS, x.N = y.N → (∀ d, x.T d = y.T d) → (∀ r, x.H r = y.H r) → x.b = y.b → x.o = y.o → x = y := by
    rintro ⟨_, _, _, _, _⟩ ⟨_, _, _, _, _⟩ h1 h2 h3 h4 h5
    simp only at h1 h4 h5
    subst h1; subst h4; subst h5
    simp only [FS.mk.injEq, true_and, and_true]
    exact ⟨funext h2, funext h3⟩
  exact key _ _ rfl hT hH rfl rfl

/-- The effects one after the other. -/
def chain (E : Nat → Option Eff) (fin : FS) : List Nat → FS → Prop
  | [], f => f = fin
  | i :: l, f => ∃ e, E i = some e ∧ f.pre e ∧ chain E fin l (f.post e)

theorem chain_move {E : Nat → Option Eff} {fin : FS} {i : Nat} {e : Eff} (hi : E i = some e) (hkn : ∀ j e, E j = some e → knownT e = true) : ∀ (js : List Nat) {rest : List Nat} {f : FS},
    (∀ j, j ∈ js → ∀ e', E j = some e' → Off e e' ∧ Off e' e) → chain E fin (js ++ i :: rest) f → f.pre e ∧ chain E fin (js ++ rest) (f.post e)
  | [], rest, f, _, h => by
    obtain ⟨e', h1, h2, h3⟩ := h
    rw [hi] at h1; cases h1
    exact ⟨h2, h3⟩
  | j :: js, rest, f, hc, h => by
    obtain ⟨e', h1, h2, h3⟩ := h
    obtain ⟨h4, h5⟩ := chain_move hi hkn js (fun k hk => hc k (List.mem_cons_of_mem _ hk)) h3
    obtain ⟨ho, ho'⟩ := hc j (List.mem_cons_self ..) e' h1
    refine ⟨pre_back (hkn _ _ hi) ho' h4, e', h1, pre_fwd ho h2, ?_⟩
    rw [post_comm ho ho']; exact h5

/-- An operation has an effect. -/
def EffOk (P : Program) (ops : Array Oper) (b : List Nat) (N oo : Nat) (o : Oper) (e : Eff) : Prop :=
  ∀ (z : Start) (s : S) (a : Act) (w : World), Sim z s a w → s.N = N → s.b = b → s.o = oo → s.toF.pre e → ∀ (K : Act → World → Prop) (Q : Exit → Act → World → Prop), (∀ a' w', Sim z (afterE s e) a' w' → K a' w') →
    if Region.wanted o (yielded ops a.tmps) then o.wpIn (WideR z.ro) 1 P a w K Q else K (a.put o.dst undef) w

def unl (n : Nat) (listed : Array Bool) : List Nat := (List.range n).filter fun i => !listed.getD i true
theorem mem_unl {n : Nat} {listed : Array Bool} {i : Nat} : i ∈ unl n listed ↔ i < n ∧ listed.getD i true = false := by
  simp [unl]
theorem unl_set {n : Nat} {listed : Array Bool} {i : Nat} (hi : listed.getD i true = false) {js rest : List Nat} (h : unl n listed = js ++ i :: rest) : unl n (listed.setIfInBounds i true) = js ++ rest := by
  have hlt : i < listed.size := by
    rcases Nat.lt_or_ge i listed.size with h' | h'
    · exact h'
    · simp [Array.getElem?_eq_none h'] at hi
  have hnd : (unl n listed).Nodup := List.Pairwise.filter _ List.nodup_range
  have e1 : unl n (listed.setIfInBounds i true) = (unl n listed).filter fun k => k != i := by
    unfold unl
    rw [List.filter_filter]
    refine List.filter_congr fun k _ => ?_
    by_cases hk : i = k
    · subst hk; simp [hlt]
    · rw [getD_set_ne true hk]
      have : (k != i) = true := by simpa using fun e => hk e.symm
      simp [this]
  rw [e1, h] at *
  rw [List.nodup_append] at hnd
  obtain ⟨h1, h2, h3⟩ := hnd
  rw [List.nodup_cons] at h2
  rw [List.filter_append, List.filter_cons]
  simp only [bne_self_eq_false, Bool.false_eq_true, if_false]
  congr 1
  · refine List.filter_eq_self.2 fun k hk => ?_
    have := h3 k hk i (List.mem_cons_self ..)
    simpa using this
  · refine List.filter_eq_self.2 fun k hk => ?_
    have : k ≠ i := fun e => h2.1 (e ▸ hk)
    simpa using this

theorem unl_sorted (n : Nat) (listed : Array Bool) : (unl n listed).Pairwise (· < ·) := List.Pairwise.filter _ List.pairwise_lt_range

/-- Operation 'j' comes ahead of operation 'i' in any order. -/
inductive Bef (ops : Array Oper) : Nat → Nat → Prop where
  | one {j i : Nat} {o : Oper} {x : Edge} (h : ops[i]? = some o) (hx : x ∈ o.after) (hb : Region.binds .any x = true) (hj : x.on = j) : Bef ops j i
  | step {j i : Nat} {o : Oper} {x : Edge} (h : ops[i]? = some o) (hx : x ∈ o.after) (hb : Region.binds .any x = true) (hj : Bef ops j x.on) : Bef ops j i
/-- What is listed has its predecessors listed. -/
def Clo (ops : Array Oper) (listed : Array Bool) : Prop := ∀ i o, ops[i]? = some o → listed.getD i false = true → ∀ x ∈ o.after, Region.binds .any x = true → listed.getD x.on false = true
theorem Clo.bef {ops : Array Oper} {listed : Array Bool} (hc : Clo ops listed) {j i : Nat} (h : Bef ops j i) : listed.getD i false = true → listed.getD j false = true := by
  induction h with
  | one h hx hb hj => intro hi; rw [← hj]; exact hc _ _ h hi _ hx hb
  | step h hx hb hj ih => intro hi; exact ih (hc _ _ h hi _ hx hb)
theorem Clo.ready {ops : Array Oper} {listed : Array Bool} (hc : Clo ops listed) {j i : Nat} {o : Oper} (hi : ops[i]? = some o) (h3 : ∀ x ∈ o.after, Region.binds .any x = true → listed.getD x.on false = true) (h : Bef ops j i) : listed.getD j false = true := by
  cases h with
  | one h hx hb hj => rw [hi] at h; cases h; rw [← hj]; exact h3 _ hx hb
  | step h hx hb hj => rw [hi] at h; cases h; exact hc.bef hj (h3 _ hx hb)
theorem Clo.set {ops : Array Oper} {listed : Array Bool} (hc : Clo ops listed) {i : Nat} {o : Oper} (hi : ops[i]? = some o) (h3 : ∀ x ∈ o.after, Region.binds .any x = true → listed.getD x.on false = true) : Clo ops (listed.setIfInBounds i true) := by
  have up : ∀ k, listed.getD k false = true → (listed.setIfInBounds i true).getD k false = true := by
    intro k hk
    simp only [Array.getD_eq_getD_getElem?, Array.getElem?_setIfInBounds] at hk ⊢
    split
    · split
      · rfl
      · rename_i h1 h2; subst h1; rw [Array.getElem?_eq_none (by omega)] at hk; exact hk
    · exact hk
  intro k o' hk hl x hx hb
  refine up _ ?_
  by_cases e : i = k
  · subst e; rw [hi] at hk; cases hk; exact h3 x hx hb
  · refine hc k o' hk ?_ x hx hb
    simp only [Array.getD_eq_getD_getElem?, Array.getElem?_setIfInBounds, if_neg e] at hl ⊢
    exact hl

structure Fits (P : Program) (ops : Array Oper) (b : List Nat) (N oo : Nat) (E : Nat → Option Eff) : Prop where
  ok : ∀ i o, ops[i]? = some o → ∃ e, E i = some e ∧ EffOk P ops b N oo o e
  known : ∀ j e, E j = some e → knownT e = true
  back : ∀ i o, ops[i]? = some o → ∀ e ∈ o.after, Region.binds .any e = true → e.on < i
  comm : ∀ j i oi e' e, j < i → ops[i]? = some oi → E j = some e' → E i = some e → Bef ops j i ∨ (Off e e' ∧ Off e' e)

theorem post_bNo {f : FS} {e : Eff} : (f.post e).N = f.N ∧ (f.post e).b = f.b ∧ (f.post e).o = f.o := ⟨rfl, rfl, rfl⟩

theorem wpAny_eff {P : Program} {ops : Array Oper} {b : List Nat} {N oo : Nat} {E : Nat → Option Eff} (hF : Fits P ops b N oo E) {z : Start} {Q : Exit → S → Prop} {fin : S} (hQ : Q .normal fin) :
    ∀ (fuel : Nat) (listed : Array Bool) (f : FS) (a : Act) (w : World), Clo ops listed → listed.size = ops.size → (unl ops.size listed).length ≤ fuel → f.N = N → f.b = b → f.o = oo → chain E fin.toF (unl ops.size listed) f → FSim z f a w →
      wpAnyIn (WideR z.ro) 1 P .any ops (Post z Q) fuel listed a w := by
  have done : ∀ (listed : Array Bool) (f : FS) (a : Act) (w : World), listed.size = ops.size → Region.ready .any ops listed = [] → chain E fin.toF (unl ops.size listed) f → FSim z f a w → Post z Q .normal a w := by
    intro listed f a w hsz hr hc hs
    cases hu : unl ops.size listed with
    | nil =>
      rw [hu] at hc
      have hc : f = fin.toF := hc
      subst hc
      exact ⟨fin, hQ, hs.sim⟩
    | cons i l =>
      exfalso
      have him : i ∈ unl ops.size listed := by rw [hu]; exact List.mem_cons_self ..
      obtain ⟨hi, hl⟩ := mem_unl.1 him
      have : i ∈ Region.ready .any ops listed := by
        refine mem_ready.2 ⟨hl, ops[i], by simp [hi], fun e he hb => ?_⟩
        have hlt := hF.back i ops[i] (by simp [hi]) e he hb
        cases hc2 : listed.getD e.on false with
        | true => rfl
        | false =>
          have h1 : e.on < listed.size := by omega
          have h2 : listed.getD e.on true = false := by
            simp [h1] at hc2 ⊢; exact hc2
          have hm : e.on ∈ unl ops.size listed := mem_unl.2 ⟨by omega, h2⟩
          have hp := unl_sorted ops.size listed
          rw [hu] at hm hp
          rcases List.mem_cons.1 hm with h3 | h3
          · omega
          · have := (List.pairwise_cons.1 hp).1 _ h3
            omega
      rw [hr] at this; cases this
  intro fuel
  induction fuel with
  | zero =>
    intro listed f a w hclo hsz hle hN hb ho hc hs
    have hu : unl ops.size listed = [] := List.eq_nil_of_length_eq_zero (by omega)
    have hr : Region.ready .any ops listed = [] := by
      cases hr : Region.ready .any ops listed with
      | nil => rfl
      | cons i l =>
        have : i ∈ Region.ready .any ops listed := by rw [hr]; exact List.mem_cons_self ..
        obtain ⟨h1, o, h2, _⟩ := mem_ready.1 this
        have : i ∈ unl ops.size listed := mem_unl.2 ⟨(Array.getElem?_eq_some_iff.1 h2).1, h1⟩
        rw [hu] at this; cases this
    exact ⟨hr, done listed f a w hsz hr hc hs⟩
  | succ fuel ih =>
    intro listed f a w hclo hsz hle hN hb ho hc hs
    refine ⟨fun hr => done listed f a w hsz hr hc hs, fun i hi => ?_⟩
    obtain ⟨h1, o, h2, h3⟩ := mem_ready.1 hi
    have him : i ∈ unl ops.size listed := mem_unl.2 ⟨(Array.getElem?_eq_some_iff.1 h2).1, h1⟩
    obtain ⟨js, rest, hsplit⟩ := List.append_of_mem him
    obtain ⟨e, hE, hok⟩ := hF.ok i o h2
    have hcomm : ∀ j, j ∈ js → ∀ e', E j = some e' → Off e e' ∧ Off e' e := by
      intro j hj e' he'
      have hp := unl_sorted ops.size listed
      rw [hsplit, List.pairwise_append] at hp
      have hlt : j < i := hp.2.2 j hj i (List.mem_cons_self ..)
      rcases hF.comm j i o e' e hlt h2 he' hE with hbf | h
      · exfalso
        have hl := hclo.ready h2 h3 hbf
        have hjm : j ∈ unl ops.size listed := by rw [hsplit]; exact List.mem_append_left _ hj
        have h4 := (mem_unl.1 hjm)
        have h5 : j < listed.size := by omega
        have h6 := h4.2
        simp [h5] at hl h6
        rw [hl] at h6; cases h6
      · exact h
    rw [hsplit] at hc
    obtain ⟨hpre, hch⟩ := chain_move hE hF.known js hcomm hc
    obtain ⟨s, hsim, rfl⟩ := hs
    have := hok z s a w hsim hN hb ho hpre (wpAnyIn (WideR z.ro) 1 P .any ops (Post z Q) fuel (listed.setIfInBounds i true)) (Post z Q) fun a' w' hsim' => by
      refine ih (listed.setIfInBounds i true) (s.toF.post e) a' w' (hclo.set h2 h3) (by simpa using hsz) ?_ hN hb ho ?_ ⟨_, hsim', toF_after s e⟩
      · rw [unl_set h1 hsplit]
        rw [hsplit] at hle
        simp only [List.length_append, List.length_cons] at hle ⊢
        omega
      · rw [unl_set h1 hsplit]; exact hch
    unfold wpOpIn
    rw [h2]
    dsimp only
    split
    · rename_i hw; rw [if_pos hw] at this; exact this
    · rename_i hw; rw [if_neg hw] at this; exact ⟨fun _ _ => trivial, this⟩

theorem AWp.any {P : Program} {ops : Array Oper} {E : Nat → Option Eff} {Q : Exit → S → Prop} {s fin : S} {id : Nat} (hm : P.follows .mixedOrders = true) (hF : Fits P ops s.b s.N s.o E)
    (hc : chain E fin.toF (List.range ops.size) s.toF) (hQ : Q .normal fin) : AWp P (.region id ops true) Q s := by
  intro z a w hs
  refine wpIn_region_any hm ?_
  have e : unl ops.size (Array.replicate ops.size false) = List.range ops.size := by
    refine List.filter_eq_self.2 fun k hk => ?_
    simp at hk
    simp [hk]
  refine wpAny_eff hF hQ ops.size _ s.toF a _ (fun i o _ hl => by simp [Array.getD_eq_getD_getElem?, Array.getElem?_replicate] at hl; split at hl <;> cases hl) (by simp) ?_ rfl rfl rfl (by rw [e]; exact hc) ⟨s, ?_, rfl⟩
  · rw [e]; simp
  · obtain ⟨St, g, hW, hT, hK⟩ := hs
    refine ⟨St, g, ⟨⟨hW.frm.os, hW.frm.tape, hW.frm.output, hW.frm.size, hW.frm.block⟩, hW.st0, hW.st1, hW.ow, fun r b hb => ?_, hW.sep⟩, ⟨hT.1, hT.2.1, fun d => Rel.mono (w := w) (w' := { w with drawn := w.drawn + 1 }) (fun _ h => h) (fun _ _ => rfl) (hT.2.2 d)⟩, hK.to (fun _ h => h) (fun _ _ => rfl) rfl (fun _ _ => rfl)⟩
    obtain ⟨v, h1, h2⟩ := hW.ok r b hb
    exact ⟨v, h1, BlkOk.mono (w := w) (w' := { w with drawn := w.drawn + 1 }) h2 (fun _ h => h) (fun _ _ => rfl) (fun _ _ => rfl) (r := 0) (fun _ _ => rfl) (.inr rfl)⟩

end Go.Abs
