/- Part 2 of the proof: AbsO, AbsP, AbsQ, AbsR, AbsS, AbsT, AbsV, AbsW, AbsX, AbsR2, AbsR3, XC19, Pure1, Srt2. -/
import Derived.Test.YtmcmhjdmilgoeaaGreatDoorZ01
import Derived.Orders
import Derived.MapKept
import Derived.Laws.IdiomRangeMap
import Derived.RangeFuncNested
import Derived.Below
import Derived.Lib.Join
import Derived.Test.YtmcmhjdmilgoeaaGreatDoorProg
namespace Go.Abs
open Go

/-- What an operation looks at, reads, and turns. -/
structure Eff where
  d : Option Nat
  v : V
  t0 : List (Nat × V)
  hr : Heap
  h0 : Heap
  h1 : Heap
  nw : List Nat

def putT (d : Option Nat) (v : V) (t : List (Nat × V)) : List (Nat × V) := match d with
  | some d => (d, v) :: t
  | none => t
def hids (h : Heap) : List Nat := h.map (·.1)
/-- What stands in a state behind an effect. -/
def afterE (s : S) (e : Eff) : S := ⟨s.N, putT e.d e.v (tdrops e.nw s.t), e.h1 ++ hdrops e.nw (dels (hids e.h0) s.h), s.b, s.o⟩

/-- The start of a part of a run that may turn the blocks 'h0' and reads those in 'lent'. -/
def subStart (_z : Start) (St : Nat → Prop) (g : Gh) (h : Heap) (w : World) (h0 : Heap) (lent : List Nat) : Start :=
  ⟨w, fun k => St k ∨ ∃ r b v, r ∈ lent ∧ h.get r = some b ∧ g r = some v ∧ blockOf v = some k, fun k => ∃ r b v, h0.get r = some b ∧ g r = some v ∧ blockOf v = some k, g, none⟩

section
variable {z : Start} {St : Nat → Prop} {g : Gh} {h h0 : Heap} {w : World}

theorem own_lt (hW : WSim z St g h w) : ∀ r b v k, h.get r = some b → g r = some v → blockOf v = some k → k < w.heap.size := by
  intro r b v k h1 h2 h3
  obtain ⟨v', h4, h5⟩ := hW.ok r b h1
  rw [h2] at h4; cases h4
  exact h5.lt k h3

theorem frame_in (hW : WSim z St g h w) (hsb : hcov h h0) (lent : List Nat) (hlent : lent.all (fun r => (h0.get r).isNone) = true) :
    WSim (subStart z St g h w h0 lent) (subStart z St g h w h0 lent).St g h0 w := by
  have hin : ∀ r b, h0.get r = some b → ∃ b', h.get r = some b' ∧ BLe b' b := fun r b hb => hcov_get hsb r b hb
  have hlnot : ∀ r, r ∈ lent → h0.get r = none := fun r hr => by
    have := List.all_eq_true.1 hlent r hr
    simpa using this
  refine ⟨Frm.refl _ _, fun _ h => h, fun k hk => ⟨?_, .inl hk⟩, fun r b v h1 h2 k h3 => ⟨?_, .inl ⟨r, b, v, h1, h2, h3⟩⟩, fun r b h1 => ?_, fun r r' b b' v v' h1 h1' h2 h2' => ?_⟩
  · rcases hk with hk | ⟨r, b, v, _, h1, h2, h3⟩
    · exact (hW.st1 k hk).1
    · exact own_lt hW r b v k h1 h2 h3
  · obtain ⟨b', h4, _⟩ := hin r b h1
    rintro (h5 | ⟨r', b2, v', hr', h6, h7, h8⟩)
    · exact (hW.ow r b' v h4 h2 k h3).1 h5
    · have hne : r ≠ r' := fun e => by subst e; rw [hlnot r hr'] at h1; cases h1
      exact hW.sep r r' b' b2 v v' h4 h6 h2 h7 hne k h3 h8
  · obtain ⟨b', h4, hbl⟩ := hin r b h1
    obtain ⟨v, h2, h3⟩ := hW.ok r b' h4
    exact ⟨v, h2, hbl _ _ _ _ (h3.mono (fun _ hk => .inl hk) (fun _ _ => rfl) (fun _ _ => rfl) (r := r) (fun _ _ => rfl) (.inr rfl))⟩
  · obtain ⟨b2, h4, _⟩ := hin r b h1; obtain ⟨b2', h4', _⟩ := hin r' b' h1'
    exact hW.sep r r' b2 b2' v v' h4 h4' h2 h2'

/-- What a part of a run may hand back. -/
def outOk (s : S) (lent : List Nat) (h0 h1 : Heap) (nw : List Nat) (r : V) : Prop :=
  V.within (hids h1) r = true ∧ Heap.within (hids h1) h1 = true ∧ (∀ k, k ∈ hids h1 → (dels (hids h0) s.h).get k = none) ∧ (∀ k, k ∈ s.b → k ∉ nw) ∧ (∀ k, k ∈ nw → k ∈ hids h1) ∧ (lent = [] ∨ (r.flat = true ∧ Heap.Flat h1))

theorem frame_outP {p : Prop} {s : S} (hW : WSim z St g s.h w) {a : Act} (hT : TSim St w g s.N s.t a) (hK : KD z St w g s.b a) (hsb : hcov s.h h0) (lent : List Nat)
    {h1 : Heap} {nw : List Nat} {r : V} {x : Value} {d : Option Nat} (hd : ∀ k, d = some k → k < s.N) {w' : World} {St' : Nat → Prop} {g' : Gh} (hW' : WSim (subStart z St g s.h w h0 lent) St' g' h1 w') (hrx : d ≠ none → Rel St' w' g' r x)
    (hkeep : ∀ k, k ∈ hids h1 → k ∉ nw → g' k = g k) (hp : p → ∀ k, (∃ r b v, r ∈ lent ∧ s.h.get r = some b ∧ g r = some v ∧ blockOf v = some k) → ∃ rr, w'.heap[k]? = some (.loop rr))
    (hok : V.within (hids h1) r = true ∧ Heap.within (hids h1) h1 = true ∧ (∀ k, k ∈ hids h1 → (dels (hids h0) s.h).get k = none) ∧ (∀ k, k ∈ s.b → k ∉ nw) ∧ (∀ k, k ∈ nw → k ∈ hids h1) ∧ ((lent = [] ∨ p) ∨ (r.flat = true ∧ Heap.Flat h1))) {t0 : List (Nat × V)} {e : Eff} (he : e = ⟨d, r, t0, e.hr, h0, h1, nw⟩) : Sim z (afterE s e) (a.put d x) w' := by
  let Lb : Nat → Prop := fun k => ∃ r b v, r ∈ lent ∧ s.h.get r = some b ∧ g r = some v ∧ blockOf v = some k
  have hin : ∀ r b, h0.get r = some b → ∃ b', s.h.get r = some b' ∧ BLe b' b := fun r b hb => hcov_get hsb r b hb
  have hlt := own_lt hW
  obtain ⟨hwr, hwh, hdis, hbb, hnw1, hfl⟩ := hok
  let g'' : Gh := fun k => if (h1.get k).isSome then g' k else g k
  let St'' : Nat → Prop := fun k => St' k ∧ ¬ Lb k
  have hSS : ∀ k, St k → St'' k := by
    intro k hk
    refine ⟨hW'.st0 k (.inl hk), ?_⟩
    rintro ⟨r, b, v, _, h2, h3, h4⟩
    exact (hW.ow r b v h2 h3 k h4).1 hk
  have hids' : ∀ k, k ∈ hids h1 → g'' k = g' k := fun k hk => by
    obtain ⟨b, hb⟩ := Heap.mem_get hk
    simp [g'', hb]
  have hnew : ∀ k, k ∉ nw → g'' k = g k := by
    intro k hk
    by_cases h : (h1.get k).isSome
    · have hm : k ∈ hids h1 := by obtain ⟨b, hb⟩ := Option.isSome_iff_exists.1 h; exact Heap.get_mem hb
      simp [g'', h, hkeep k hm hk]
    · simp [g'', h]
  have hflat : ∀ {v : V} {y : Value} {gg : Gh}, Rel St' w' gg v y → ((lent = [] ∨ p) ∨ v.flat = true) → Rel St'' w' gg v y := by
    intro v y gg hv hl
    rcases hl with (hl | hl) | hl
    rotate_left
    · refine hv.cut (fun k hk hd => ⟨hk, fun hl2 => ?_⟩) (fun _ _ => rfl)
      obtain ⟨rr, hrr⟩ := hp hl k hl2
      exact not_loop hd rr hrr
    · exact hv.flat hl
    · refine hv.mono (fun k hk => ⟨hk, ?_⟩) (fun _ _ => rfl)
      rintro ⟨r, b, v, hr, _⟩
      rw [hl] at hr; cases hr
  have hStw : ∀ k, St k → w'.heap[k]? = w.heap[k]? := by
    intro k hk
    refine hW'.frm.block k (hW.st1 k hk).1 ?_
    rintro ⟨r, b, v, h2, h3, h4⟩
    obtain ⟨b', h5, _⟩ := hin r b h2
    exact (hW.ow r b' v h5 h3 k h4).1 hk
  let hr := hdrops nw (dels (hids h0) s.h)
  have hrest : ∀ k b, hr.get k = some b → ∃ b0, s.h.get k = some b0 ∧ h0.get k = none ∧ h1.get k = none ∧ ∀ St w v, BlkOk St w g v b0 → BlkOk St w g'' v b := by
    intro k b hb
    have key : ∃ b0, (dels (hids h0) s.h).get k = some b0 := by
      obtain ⟨b0, h2, _⟩ := drops_ok (St := St) (w := w) nw (g := g) (g' := g'') hb hnew
      exact ⟨b0, h2⟩
    obtain ⟨b0, h2⟩ := key
    have h3 := h2
    rw [get_dels] at h3
    split at h3
    · cases h3
    · rename_i hnm
      have e0 : h0.get k = none := by
        cases hc : h0.get k with
        | none => rfl
        | some c => exact absurd (Heap.get_mem hc) hnm
      have e1 : h1.get k = none := by
        cases hc : h1.get k with
        | none => rfl
        | some c =>
          have := hdis k (Heap.get_mem hc)
          rw [h2] at this; cases this
      refine ⟨b0, h3, e0, e1, fun St w v hv => ?_⟩
      obtain ⟨b0', h4, h5⟩ := drops_ok (St := St) (w := w) nw (g := g) (g' := g'') hb hnew
      rw [h2] at h4; cases h4
      exact h5 v hv
  have hget : ∀ k b, Heap.get (h1 ++ hr) k = some b → h1.get k = some b ∨ (h1.get k = none ∧ hr.get k = some b) := by
    intro k b hb
    rw [Heap.get_append] at hb
    cases hc : h1.get k with
    | none => rw [hc] at hb; exact .inr ⟨rfl, hb⟩
    | some c => rw [hc] at hb; cases hb; exact .inl rfl
  have hownc : ∀ k, (subStart z St g s.h w h0 lent).Own k → z.Own k ∨ z.w.heap.size ≤ k := by
    rintro k ⟨r, b, v, h2, h3, h4⟩
    obtain ⟨b', h5, _⟩ := hin r b h2
    exact (hW.ow r b' v h5 h3 k h4).2
  have hNput : ∀ {t : List (Nat × V)} {gg : Gh} {Su : Nat → Prop}, TSim Su w' gg s.N t a → (d ≠ none → Rel Su w' gg r x) → TSim Su w' gg s.N (putT d r t) (a.put d x) := by
    intro t gg Su ht hx
    cases d with
    | none => exact ht
    | some k => exact ht.put (hd k rfl) (hx (by simp))
  have haf : afterE s e = ⟨s.N, putT d r (tdrops nw s.t), h1 ++ hr, s.b, s.o⟩ := by rw [he]; rfl
  rw [haf]
  refine ⟨St'', g'', ⟨⟨hW'.frm.os.trans hW.frm.os, hW'.frm.tape.trans hW.frm.tape, hW'.frm.output.trans hW.frm.output, Nat.le_trans hW.frm.size hW'.frm.size, fun k hk hno => ?_⟩,
    fun k hk => hSS k (hW.st0 k hk), fun k hk => ?_, ?_, ?_, ?_⟩, ?_, hK.to hSS hStw (put_defers ..) (fun k hk => hnew k (hbb k hk))⟩
  · rw [← hW.frm.block k hk hno]
    refine hW'.frm.block k (Nat.lt_of_lt_of_le hk hW.frm.size) fun hc => ?_
    rcases hownc k hc with h2 | h2
    · exact hno h2
    · omega
  · obtain ⟨h2, h3⟩ := hW'.st1 k hk.1
    refine ⟨h2, ?_⟩
    rcases h3 with (h3 | h3) | h3 | h3
    · exact (hW.st1 k h3).2
    · exact absurd h3 hk.2
    · rcases hownc k h3 with h4 | h4
      · exact .inr (.inl h4)
      · exact .inr (.inr h4)
    · exact .inr (.inr (Nat.le_trans hW.frm.size h3))
  · intro k b v hb hv q hq
    rcases hget k b hb with h2 | ⟨h2, h3⟩
    · have e : g' k = some v := by rw [← hids' k (Heap.get_mem h2)]; exact hv
      obtain ⟨h4, h5⟩ := hW'.ow k b v h2 e q hq
      refine ⟨fun h => h4 h.1, ?_⟩
      rcases h5 with h5 | h5
      · exact hownc q h5
      · exact .inr (Nat.le_trans hW.frm.size h5)
    · obtain ⟨b0, h4, h5, h6, h7⟩ := hrest k b h3
      have e : g k = some v := by have : g'' k = g k := by simp [g'', h6]
                                  rw [← this]; exact hv
      obtain ⟨h8, h9⟩ := hW.ow k b0 v h4 e q hq
      refine ⟨?_, h9⟩
      rintro ⟨h10, h11⟩
      rcases (hW'.st1 q h10).2 with (h12 | h12) | h12 | h12
      · exact h8 h12
      · exact h11 h12
      · obtain ⟨r', b', v', h13, h14, h15⟩ := h12
        obtain ⟨b2, h16, _⟩ := hin r' b' h13
        have hne : k ≠ r' := fun e => by subst e; rw [h5] at h13; cases h13
        exact hW.sep k r' b0 b2 v v' h4 h16 e h14 hne q hq h15
      · have := hlt k b0 v q h4 e hq
        have h12' : w.heap.size ≤ q := h12
        omega
  · intro k b hb
    rcases hget k b hb with h2 | ⟨h2, h3⟩
    · obtain ⟨v, h4, h5⟩ := hW'.ok k b h2
      refine ⟨v, by rw [hids' k (Heap.get_mem h2)]; exact h4, ?_⟩
      have h6 := h5.ghost hids' (Heap.within_get hwh h2)
      have hf : (lent = [] ∨ p) ∨ b.Flat := hfl.imp id fun h => Heap.Flat_get h.2 h2
      cases b with
      | cells t cs =>
        obtain ⟨bb, vals', rfl, h7, h8, h9, h10⟩ := h6
        exact ⟨bb, vals', rfl, h7, h8, fun i hi => hflat (h9 i hi) (hf.imp id fun h => V.flatAll_get h), h10⟩
      | rows e sz n f =>
        obtain ⟨xs, h7, h8, h9⟩ := h6
        exact ⟨xs, h7, fun i j hi hj => hflat (h8 i j hi hj) (hf.imp id fun h => h i j hi hj), h9⟩
      | iter n kf vf seen =>
        obtain ⟨bb, m, h7, h8, h9⟩ := h6
        exact ⟨bb, m, h7, h8, hflat h9 (hf.imp id fun h => h.elim)⟩
      | siter l pos => exact h6
      | yld o k =>
        obtain ⟨l, r, h7, h8, h9⟩ := h6
        refine ⟨l, r, h7, h8, ?_⟩
        cases o with
        | none => trivial
        | some p =>
          obtain ⟨ids, C⟩ := p
          obtain ⟨i1, i2, i3, i4, i5, i6, i6', i7, i8, i9⟩ := h9
          exact ⟨i1, i2, i3, i4, i5, i6, i6', i7, i8, fun d => hflat (i9 d) (hf.imp id fun h => by cases h)⟩
      | mapB n kf vf =>
        obtain ⟨bb, es, h7, h8, h9, h10, h11, h12⟩ := h6
        exact ⟨bb, es, h7, h8, h9, h10, fun i hi => hflat (h11 i hi) (hf.imp id fun h => (h i hi).1), fun i hi => hflat (h12 i hi) (hf.imp id fun h => (h i hi).2)⟩
    · obtain ⟨b0, h4, h5, h6, h7⟩ := hrest k b h3
      obtain ⟨v, h8, h9⟩ := hW.ok k b0 h4
      refine ⟨v, by have : g'' k = g k := by simp [g'', h6]
                    rw [this]; exact h8, h7 _ _ v ?_⟩
      refine h9.mono hSS hStw (fun q hq => ?_) (r := k) (fun _ _ => rfl) (.inr rfl)
      refine hW'.frm.block q (hlt k b0 v q h4 h8 hq) ?_
      rintro ⟨r', b', v', h13, h14, h15⟩
      obtain ⟨b2, h16, _⟩ := hin r' b' h13
      have hne : k ≠ r' := fun e => by subst e; rw [h5] at h13; cases h13
      exact hW.sep k r' b0 b2 v v' h4 h16 h8 h14 hne q hq h15
  · intro k k' b b' v v' hb hb' hv hv' hne q hq hq'
    have mixed : ∀ k k' b b' v v', h1.get k = some b → h1.get k' = none → hr.get k' = some b' → g'' k = some v → g'' k' = some v' → blockOf v = some q → blockOf v' = some q → False := by
      intro k k' b b' v v' h2 h2' h3' hv hv' hq hq'
      have e : g' k = some v := by rw [← hids' k (Heap.get_mem h2)]; exact hv
      obtain ⟨b0, h4, h5, h6, h7⟩ := hrest k' b' h3'
      have e' : g k' = some v' := by have : g'' k' = g k' := by simp [g'', h6]
                                     rw [← this]; exact hv'
      have hql := hlt k' b0 v' q h4 e' hq'
      rcases (hW'.ow k b v h2 e q hq).2 with ⟨r', b2, v2, h13, h14, h15⟩ | h8
      · obtain ⟨b3, h16, _⟩ := hin r' b2 h13
        have hne : k' ≠ r' := fun e => by subst e; rw [h5] at h13; cases h13
        exact hW.sep k' r' b0 b3 v' v2 h4 h16 e' h14 hne q hq' h15
      · have h8' : w.heap.size ≤ q := h8
        omega
    rcases hget k b hb with h2 | ⟨h2, h3⟩ <;> rcases hget k' b' hb' with h2' | ⟨h2', h3'⟩
    · have e : g' k = some v := by rw [← hids' k (Heap.get_mem h2)]; exact hv
      have e' : g' k' = some v' := by rw [← hids' k' (Heap.get_mem h2')]; exact hv'
      exact hW'.sep k k' b b' v v' h2 h2' e e' hne q hq hq'
    · exact mixed k k' b b' v v' h2 h2' h3' hv hv' hq hq'
    · exact mixed k' k b' b v' v h2' h2 h3 hv' hv hq' hq
    · obtain ⟨b0, h4, h5, h6, h7⟩ := hrest k b h3
      obtain ⟨b0', h4', h5', h6', h7'⟩ := hrest k' b' h3'
      have e : g k = some v := by have : g'' k = g k := by simp [g'', h6]
                                  rw [← this]; exact hv
      have e' : g k' = some v' := by have : g'' k' = g k' := by simp [g'', h6']
                                     rw [← this]; exact hv'
      exact hW.sep k k' b0 b0' v v' h4 h4' e e' hne q hq hq'
  · have hT1 : TSim St'' w' g s.N s.t a := ⟨hT.1, hT.2.1, fun k => (hT.2.2 k).mono hSS hStw⟩
    exact hNput (hT1.drops nw hnew) fun hdn => hflat ((hrx hdn).within hids' hwr) (hfl.imp id fun h => h.1)
theorem frame_out {s : S} (hW : WSim z St g s.h w) {a : Act} (hT : TSim St w g s.N s.t a) (hK : KD z St w g s.b a) (hsb : hcov s.h h0) (lent : List Nat)
    {h1 : Heap} {nw : List Nat} {r : V} {x : Value} {d : Option Nat} (hd : ∀ k, d = some k → k < s.N) {w' : World} {St' : Nat → Prop} {g' : Gh} (hW' : WSim (subStart z St g s.h w h0 lent) St' g' h1 w') (hrx : d ≠ none → Rel St' w' g' r x)
    (hkeep : ∀ k, k ∈ hids h1 → k ∉ nw → g' k = g k) (hok : outOk s lent h0 h1 nw r) {t0 : List (Nat × V)} {e : Eff} (he : e = ⟨d, r, t0, e.hr, h0, h1, nw⟩) : Sim z (afterE s e) (a.put d x) w' :=
  frame_outP (p := False) hW hT hK hsb lent hd hW' hrx hkeep (fun h => h.elim) ⟨hok.1, hok.2.1, hok.2.2.1, hok.2.2.2.1, hok.2.2.2.2.1, hok.2.2.2.2.2.imp .inl id⟩ he
end

end Go.Abs
namespace Go.Abs
open Go

def V.freshL (ks : List Nat) (v : V) : Bool := ks.all fun r => v.fresh r
def Blk.freshL (ks : List Nat) (b : Blk) : Bool := ks.all fun r => b.fresh r
def dropsV (ks : List Nat) (v : V) : V := if v.freshL ks then v else .any
def Blk.drops (ks : List Nat) : Blk → Blk
  | .cells t cs => .cells t (cs.map (dropsV ks))
  | .yld o k => .yld (yoCut ((yoIds o).any ks.contains) o) k
  | b => b
theorem V.any_freshL (ks : List Nat) : V.freshL ks .any = true := by simp [V.freshL, V.fresh]
theorem dropsV_nil (v : V) : dropsV [] v = v := by simp [dropsV, V.freshL]
theorem dropsV_any (ks : List Nat) : dropsV ks .any = .any := by unfold dropsV; split <;> rfl
theorem dropsV_or (ks : List Nat) (v : V) : dropsV ks v = v ∨ dropsV ks v = .any := by unfold dropsV; split <;> simp
theorem dropsV_fresh {ks : List Nat} {v : V} (h : v.freshL ks = true) : dropsV ks v = v := by simp [dropsV, h]
theorem dropsV_comm (k1 k2 : List Nat) (v : V) : dropsV k1 (dropsV k2 v) = dropsV k2 (dropsV k1 v) := by
  cases h1 : v.freshL k1 <;> cases h2 : v.freshL k2
  · simp [dropsV, h1, h2, V.any_freshL]
  · simp [dropsV, h1, h2, V.any_freshL]
  · simp [dropsV, h1, h2, V.any_freshL]
  · simp [dropsV, h1, h2]
theorem yoCut_cut (b1 b2 : List Nat → Bool) (h1 : b1 [] = false) (_h2 : b2 [] = false) (o : Option (List Nat × YC)) : yoCut (b1 (yoIds (yoCut (b2 (yoIds o)) o))) (yoCut (b2 (yoIds o)) o) = yoCut (b1 (yoIds o) || b2 (yoIds o)) o := by
  cases h3 : b2 (yoIds o)
  · have e : yoCut false o = o := rfl
    rw [e, Bool.or_false]
  · have e : yoCut true o = none := rfl
    rw [e, Bool.or_true, e]
    show yoCut (b1 []) none = none
    rw [h1]; rfl
theorem Blk.drops_nil (b : Blk) : b.drops [] = b := by cases b <;> simp [Blk.drops, funext dropsV_nil, yoCut]
theorem Blk.drops_comm (k1 k2 : List Nat) (b : Blk) : (b.drops k1).drops k2 = (b.drops k2).drops k1 := by
  cases b <;> simp only [Blk.drops]
  case yld o k => rw [yoCut_cut (fun l => l.any k2.contains) (fun l => l.any k1.contains) rfl rfl, yoCut_cut (fun l => l.any k1.contains) (fun l => l.any k2.contains) rfl rfl, Bool.or_comm]
  all_goals simp [Function.comp_def, dropsV_comm k2 k1]
theorem freshL_all {ks : List Nat} {cs : List V} (h : ks.all (fun r => V.freshAll r cs) = true) : ∀ v ∈ cs, v.freshL ks = true := by
  intro v hv
  unfold V.freshL
  rw [List.all_eq_true] at h ⊢
  intro r hr
  have := h r hr
  obtain ⟨i, hi, rfl⟩ := List.getElem_of_mem hv
  have h2 := V.freshAll_get (i := i) this
  simpa [List.getD_eq_getElem?_getD, hi] using h2
theorem Blk.drops_fresh {ks : List Nat} {b : Blk} (h : b.freshL ks = true) : b.drops ks = b := by
  cases b with
  | rows => rfl
  | iter => rfl
  | siter => rfl
  | mapB => rfl
  | yld o k =>
    have : (yoIds o).any ks.contains = false := by
      rw [List.any_eq_false]
      intro i hi hc
      have h2 := List.all_eq_true.1 h i (by simpa using hc)
      simp only [Blk.fresh, Bool.not_eq_true', List.contains_eq_mem, decide_eq_false_iff_not] at h2
      exact h2 hi
    simp only [Blk.drops, this, yoCut, Bool.false_eq_true, if_false]
  | cells t cs =>
    simp only [Blk.drops, Blk.cells.injEq, true_and]
    have h2 := freshL_all (cs := cs) h
    calc cs.map (dropsV ks) = cs.map id := List.map_congr_left fun v hv => dropsV_fresh (h2 v hv)
      _ = cs := by simp

theorem dropsV_cons (d : Nat) (ks : List Nat) (v : V) : (if V.fresh d (dropsV ks v) then dropsV ks v else .any) = dropsV (d :: ks) v := by
  have e : V.freshL (d :: ks) v = (V.fresh d v && V.freshL ks v) := rfl
  unfold dropsV
  rw [e]
  cases h2 : v.freshL ks
  · simp [V.fresh]
  · simp
theorem tget_drops (ks : List Nat) (k : Nat) (t : List (Nat × V)) : tget (tdrops ks t) k = dropsV ks (tget t k) := by
  induction ks with
  | nil => simp [tdrops, dropsV_nil]
  | cons d ks ih =>
    show tget (tdrop d (tdrops ks t)) k = _
    rw [tget_drop, ih]
    exact dropsV_cons d ks _
theorem get_drops (ks : List Nat) (k : Nat) (h : Heap) : Heap.get (hdrops ks h) k = (h.get k).map (Blk.drops ks) := by
  induction ks with
  | nil => simp [hdrops, funext Blk.drops_nil]
  | cons d ks ih =>
    show Heap.get (hdrop d (hdrops ks h)) k = _
    rw [get_hdrop, ih, Option.map_map]
    congr 1
    funext b
    cases b with
    | rows => rfl
    | iter => rfl
    | siter => rfl
    | mapB => rfl
    | yld o k =>
      simp only [Function.comp, Blk.drops, Blk.drop]
      rw [yoCut_cut (fun l => l.contains d) (fun l => l.any ks.contains) rfl rfl]
      congr 2
      rw [Bool.eq_iff_iff]
      simp only [Bool.or_eq_true, List.any_eq_true, List.contains_eq_mem, decide_eq_true_eq, List.mem_cons]
      constructor
      · rintro (h | ⟨x, h1, h2⟩)
        · exact ⟨d, h, .inl rfl⟩
        · exact ⟨x, h1, .inr h2⟩
      · rintro ⟨x, h1, rfl | h2⟩
        · exact .inl h1
        · exact .inr ⟨x, h1, h2⟩
    | cells t cs =>
      simp only [Function.comp, Blk.drops, Blk.drop, List.map_map, Blk.cells.injEq, true_and]
      refine List.map_congr_left fun v _ => ?_
      exact dropsV_cons d ks v

/-- A block that is known less of. -/
def BW : Blk → Blk → Prop
  | .cells t cs, .cells t' cs' => t = t' ∧ cs.length = cs'.length ∧ ∀ i, cs'.getD i .any = .any ∨ cs.getD i .any = cs'.getD i .any
  | .yld o k, .yld o' k' => k = k' ∧ (o' = none ∨ o = o')
  | b, b' => b = b'
theorem BW.refl (b : Blk) : BW b b := by cases b <;> simp [BW]
theorem BW.ble {b b' : Blk} (h : BW b b') : BLe b b' := by
  cases b <;> cases b' <;> simp only [BW] at h
  · obtain ⟨rfl, hl, h⟩ := h
    refine .cells hl fun i _ => ?_
    rcases h i with e | e <;> rw [e]
    · exact .any _
    · exact .refl _
  case yld.yld o k o' k' =>
    obtain ⟨rfl, h⟩ := h
    rcases h with rfl | rfl
    · rintro St w g v ⟨l, r, h1, h2, _⟩
      exact ⟨l, r, h1, h2, trivial⟩
    · exact .refl _
  all_goals (cases h; try exact .refl _)
theorem BW.rows {b' : Blk} {e : TypeId} {sz n : Nat} {f : Nat → Nat → V} (h : BW b' (.rows e sz n f)) : b' = .rows e sz n f := by
  cases b' <;> simp [BW] at h ⊢ <;> exact h
theorem getD_drops (ks : List Nat) (cs : List V) (i : Nat) : (cs.map (dropsV ks)).getD i .any = dropsV ks (cs.getD i .any) := by
  by_cases h : i < cs.length
  · simp [List.getD_eq_getElem?_getD, h]
  · simp [List.getD_eq_getElem?_getD, List.getElem?_eq_none (Nat.le_of_not_lt h), dropsV_any]
theorem BW.undrop {ks : List Nat} {b b' : Blk} (h : BW (b.drops ks) b') : BW b b' := by
  cases b <;> cases b' <;> simp only [BW, Blk.drops] at h ⊢
  · refine ⟨h.1, by simpa using h.2.1, fun i => ?_⟩
    rcases h.2.2 i with e | e
    · exact .inl e
    · rw [getD_drops] at e
      rcases dropsV_or ks (List.getD _ i .any) with e2 | e2
      · rw [e2] at e; exact .inr e
      · rw [e2] at e; exact .inl e.symm
  case yld.yld o k o' k' =>
    refine ⟨h.1, ?_⟩
    rcases h.2 with h | h
    · exact .inl h
    · unfold yoCut at h; split at h
      · exact .inl h.symm
      · exact .inr h
  all_goals first | exact h | (cases h; done)
theorem Blk.fresh_get {ks : List Nat} {t : TypeId} {cs : List V} (h : Blk.freshL ks (.cells t cs) = true) (i : Nat) : (cs.getD i .any).freshL ks = true := by
  unfold V.freshL
  unfold Blk.freshL at h
  rw [List.all_eq_true] at h ⊢
  intro r hr
  exact V.freshAll_get (h r hr)
theorem BW.drop {ks : List Nat} {b b' : Blk} (h : BW b b') (hf : b'.freshL ks = true) : BW (b.drops ks) b' := by
  cases b <;> cases b' <;> simp only [BW, Blk.drops] at h ⊢
  · refine ⟨h.1, by simpa using h.2.1, fun i => ?_⟩
    rw [getD_drops]
    rcases h.2.2 i with e | e
    · exact .inl e
    · rw [e]; exact .inr (dropsV_fresh (Blk.fresh_get hf i))
  case yld.yld o k o' k' =>
    refine ⟨h.1, ?_⟩
    rcases h.2 with h | rfl
    · exact .inl h
    · have := Blk.drops_fresh hf
      simp only [Blk.drops, Blk.yld.injEq, and_true] at this
      exact .inr this
  all_goals first | exact h | (cases h; done)

/-- A state as functions. -/
structure FS where
  N : Nat
  T : Nat → V
  H : Nat → Option Blk
  b : List Nat
  o : Nat
def S.toF (s : S) : FS := ⟨s.N, tget s.t, Heap.get s.h, s.b, s.o⟩
def FSim (z : Start) (f : FS) (a : Act) (w : World) : Prop := ∃ s, Sim z s a w ∧ s.toF = f
theorem Sim.of_toF {z : Start} {s s' : S} {a : Act} {w : World} (h : Sim z s a w) (e : s.toF = s'.toF) : Sim z s' a w := by
  obtain ⟨N, t, hh, b, o⟩ := s
  obtain ⟨N', t', hh', b', o'⟩ := s'
  simp only [S.toF, FS.mk.injEq] at e
  obtain ⟨rfl, et, eh, rfl, rfl⟩ := e
  obtain ⟨St, g, hW, hT, hK⟩ := h
  exact ⟨St, g, hW.less fun r b hb => ⟨b, by show Heap.get hh r = some b; rw [eh]; exact hb, fun _ h => h⟩, ⟨hT.1, hT.2.1, fun d => by rw [← et]; exact hT.2.2 d⟩, hK⟩
theorem FSim.sim {z : Start} {s : S} {a : Act} {w : World} (h : FSim z s.toF a w) : Sim z s a w := by
  obtain ⟨s', h, e⟩ := h; exact h.of_toF e

def FS.post (f : FS) (e : Eff) : FS := ⟨f.N, fun d => if e.d = some d then e.v else dropsV e.nw (f.T d),
  fun r => match e.h1.get r with
    | some b => some b
    | none => if r ∈ hids e.h0 then none else (f.H r).map (Blk.drops e.nw), f.b, f.o⟩
structure FS.pre (f : FS) (e : Eff) : Prop where
  t0 : ∀ p ∈ e.t0, f.T p.1 = p.2
  hr : ∀ p ∈ e.hr, ∃ b', f.H p.1 = some b' ∧ BW b' p.2
  h0 : ∀ p ∈ e.h0, ∃ b', f.H p.1 = some b' ∧ BW b' p.2
  h1 : ∀ k, k ∈ hids e.h1 → k ∉ hids e.h0 → f.H k = none

theorem toF_after (s : S) (e : Eff) : (afterE s e).toF = s.toF.post e := by
  simp only [S.toF, afterE, FS.post, FS.mk.injEq, true_and, and_true]
  refine ⟨funext fun d => ?_, funext fun r => ?_⟩
  · cases hd : e.d with
    | some k => simp only [putT, tget, tget_drops, Option.some.injEq]
    | none => simp only [putT, tget_drops]; simp
  · rw [Heap.get_append, get_drops, get_dels]
    cases hb : e.h1.get r with
    | some b => rfl
    | none =>
      dsimp only
      split <;> rfl

/-- The values that an effect looks at are known. -/
def V.isAny : V → Bool
  | .any => true
  | _ => false
def knownT (e : Eff) : Bool := e.t0.all fun p => !p.2.isAny

def Eff.touch (e : Eff) : List Nat := hids e.h0 ++ hids e.h1
def Eff.ids (e : Eff) : List Nat := hids e.hr ++ hids e.h0 ++ hids e.h1
/-- 'e' leaves alone what 'e'' looks at and gives. -/
def off (e e' : Eff) : Bool :=
  (match e.d with
    | some d => !(e'.d == some d) && e'.t0.all (fun p => !(p.1 == d))
    | none => true) &&
  e.touch.all (fun k => !e'.ids.contains k) &&
  e'.v.freshL e.nw && e'.t0.all (fun p => p.2.freshL e.nw) && e'.hr.all (fun p => p.2.freshL e.nw) && e'.h0.all (fun p => p.2.freshL e.nw) && e'.h1.all (fun p => p.2.freshL e.nw)
structure Off (e e' : Eff) : Prop where
  d : ∀ d, e.d = some d → e'.d ≠ some d ∧ ∀ p ∈ e'.t0, p.1 ≠ d
  ids : ∀ k, k ∈ hids e.h0 ∨ k ∈ hids e.h1 → k ∉ hids e'.hr ∧ k ∉ hids e'.h0 ∧ k ∉ hids e'.h1
  v : e'.v.freshL e.nw = true
  t0 : ∀ p ∈ e'.t0, p.2.freshL e.nw = true
  hr : ∀ p ∈ e'.hr, p.2.freshL e.nw = true
  h0 : ∀ p ∈ e'.h0, p.2.freshL e.nw = true
  h1 : ∀ p ∈ e'.h1, p.2.freshL e.nw = true
theorem off_spec {e e' : Eff} (h : off e e' = true) : Off e e' := by
  unfold off at h
  simp only [Bool.and_eq_true, List.all_eq_true] at h
  obtain ⟨⟨⟨⟨⟨⟨h1, h2⟩, h3⟩, h4⟩, h5⟩, h6⟩, h7⟩ := h
  refine ⟨fun d hd => ?_, fun k hk => ?_, h3, h4, h5, h6, h7⟩
  · rw [hd] at h1
    simp only [Bool.and_eq_true, Bool.not_eq_true', beq_eq_false_iff_ne, List.all_eq_true] at h1
    exact ⟨h1.1, fun p hp => h1.2 p hp⟩
  · have := h2 k (by unfold Eff.touch; exact List.mem_append.2 hk)
    simp only [Bool.not_eq_true', List.contains_eq_mem, decide_eq_false_iff_not, Eff.ids, List.mem_append, not_or] at this
    exact ⟨this.1.1, this.1.2, this.2⟩

theorem mem_hids_of {h : Heap} {p : Nat × Blk} (hp : p ∈ h) : p.1 ∈ hids h := List.mem_map.2 ⟨p, hp, rfl⟩
theorem get_none_of {h : Heap} {k : Nat} (hk : k ∉ hids h) : h.get k = none := by
  cases hc : h.get k with
  | none => rfl
  | some c => exact absurd (Heap.get_mem hc) hk
theorem get_mem2 {h : Heap} {k : Nat} {b : Blk} (hk : h.get k = some b) : (k, b) ∈ h := by
  induction h with
  | nil => simp [Heap.get] at hk
  | cons p h ih =>
    obtain ⟨a, c⟩ := p
    simp only [Heap.get] at hk
    split at hk
    · rename_i ha; subst ha; cases hk; simp
    · exact List.mem_cons_of_mem _ (ih hk)

theorem post_H_off {f : FS} {e e' : Eff} (ho : Off e e') {k : Nat} (hk : k ∈ hids e'.hr ∨ k ∈ hids e'.h0 ∨ k ∈ hids e'.h1) : (f.post e).H k = (f.H k).map (Blk.drops e.nw) := by
  have h0 : k ∉ hids e.h0 := fun h => by
    have := ho.ids k (.inl h)
    rcases hk with h | h | h
    · exact this.1 h
    · exact this.2.1 h
    · exact this.2.2 h
  have h1 : k ∉ hids e.h1 := fun h => by
    have := ho.ids k (.inr h)
    rcases hk with h | h | h
    · exact this.1 h
    · exact this.2.1 h
    · exact this.2.2 h
  simp [FS.post, get_none_of h1, h0]

theorem post_T_off {f : FS} {e e' : Eff} (ho : Off e e') {p : Nat × V} (hp : p ∈ e'.t0) : (f.post e).T p.1 = dropsV e.nw (f.T p.1) := by
  have : e.d ≠ some p.1 := fun h => (ho.d _ h).2 p hp rfl
  simp [FS.post, this]

theorem pre_back {f : FS} {e e' : Eff} (hkn : knownT e' = true) (ho : Off e e') (h : (f.post e).pre e') : f.pre e' := by
  refine ⟨fun p hp => ?_, fun p hp => ?_, fun p hp => ?_, fun k hk hk0 => ?_⟩
  · have h1 := h.t0 p hp
    rw [post_T_off ho hp] at h1
    rcases dropsV_or e.nw (f.T p.1) with e2 | e2
    · rw [e2] at h1; exact h1
    · rw [e2] at h1
      have := List.all_eq_true.1 hkn p hp
      rw [← h1] at this; simp [V.isAny] at this
  · obtain ⟨b', h1, h2⟩ := h.hr p hp
    rw [post_H_off ho (.inl (mem_hids_of hp)), Option.map_eq_some_iff] at h1
    obtain ⟨b0, h3, rfl⟩ := h1
    exact ⟨b0, h3, h2.undrop⟩
  · obtain ⟨b', h1, h2⟩ := h.h0 p hp
    rw [post_H_off ho (.inr (.inl (mem_hids_of hp))), Option.map_eq_some_iff] at h1
    obtain ⟨b0, h3, rfl⟩ := h1
    exact ⟨b0, h3, h2.undrop⟩
  · have h1 := h.h1 k hk hk0
    rw [post_H_off ho (.inr (.inr hk)), Option.map_eq_none_iff] at h1
    exact h1
theorem pre_fwd {f : FS} {e e' : Eff} (ho : Off e e') (h : f.pre e') : (f.post e).pre e' := by
  refine ⟨fun p hp => ?_, fun p hp => ?_, fun p hp => ?_, fun k hk hk0 => ?_⟩
  · rw [post_T_off ho hp, h.t0 p hp]; exact dropsV_fresh (ho.t0 p hp)
  · obtain ⟨b', h1, h2⟩ := h.hr p hp
    exact ⟨_, by rw [post_H_off ho (.inl (mem_hids_of hp)), h1]; rfl, h2.drop (ho.hr p hp)⟩
  · obtain ⟨b', h1, h2⟩ := h.h0 p hp
    exact ⟨_, by rw [post_H_off ho (.inr (.inl (mem_hids_of hp))), h1]; rfl, h2.drop (ho.h0 p hp)⟩
  · rw [post_H_off ho (.inr (.inr hk)), h.h1 k hk hk0]; rfl
theorem post_comm {f : FS} {e e' : Eff} (ho : Off e e') (ho' : Off e' e) : (f.post e).post e' = (f.post e').post e := by
  have hT : ∀ d, ((f.post e).post e').T d = ((f.post e').post e).T d := by
    intro d
    simp only [FS.post]
    by_cases h1 : e'.d = some d
    · have h2 : e.d ≠ some d := fun h => (ho.d d h).1 h1
      simp [h1, h2, dropsV_fresh ho.v]
    · by_cases h2 : e.d = some d
      · simp [h1, h2, dropsV_fresh ho'.v]
      · simp [h1, h2, dropsV_comm e.nw e'.nw]
  have hH : ∀ r, ((f.post e).post e').H r = ((f.post e').post e).H r := by
    intro r
    by_cases h1 : r ∈ hids e'.h1
    · have h2 := ho'.ids r (.inr h1)
      obtain ⟨b, hb⟩ := Heap.mem_get h1
      have h3 : r ∉ hids e.h1 := h2.2.2
      have := Blk.drops_fresh (ho.h1 _ (get_mem2 hb))
      simp [FS.post, hb, get_none_of h3, h2.2.1, this]
    · by_cases h2 : r ∈ hids e.h1
      · have h3 := ho.ids r (.inr h2)
        obtain ⟨b, hb⟩ := Heap.mem_get h2
        have := Blk.drops_fresh (ho'.h1 _ (get_mem2 hb))
        simp [FS.post, hb, get_none_of h1, h3.2.1, this]
      · by_cases h3 : r ∈ hids e'.h0
        · simp [FS.post, get_none_of h1, get_none_of h2, h3]
        · by_cases h4 : r ∈ hids e.h0
          · simp [FS.post, get_none_of h1, get_none_of h2, h4]
          · simp [FS.post, get_none_of h1, get_none_of h2, h3, h4, Option.map_map, Function.comp_def, Blk.drops_comm e.nw e'.nw]
  have key : ∀ x y : FS, x.N = y.N → (∀ d, x.T d = y.T d) → (∀ r, x.H r = y.H r) → x.b = y.b → x.o = y.o → x = y := by
    rintro ⟨_, _, _, _, _⟩ ⟨_, _, _, _, _⟩ h1 h2 h3 h4 h5
    simp only at h1 h4 h5
    subst h1; subst h4; subst h5
    simp only [FS.mk.injEq, true_and, and_true]
    exact ⟨funext h2, funext h3⟩
  exact key _ _ rfl hT hH rfl rfl

/-- The effects one after the other. -/
def chain (E : Nat → Option Eff) (fin : FS) : List Nat → FS → Prop
  | [], f => f = fin
  | i :: l, f => ∃ e, E i = some e ∧ f.pre e ∧ chain E fin l (f.post e)

theorem chain_move {E : Nat → Option Eff} {fin : FS} {i : Nat} {e : Eff} (hi : E i = some e) (hkn : ∀ j e, E j = some e → knownT e = true) : ∀ (js : List Nat) {rest : List Nat} {f : FS},
    (∀ j, j ∈ js → ∀ e', E j = some e' → Off e e' ∧ Off e' e) → chain E fin (js ++ i :: rest) f → f.pre e ∧ chain E fin (js ++ rest) (f.post e)
  | [], rest, f, _, h => by
    obtain ⟨e', h1, h2, h3⟩ := h
    rw [hi] at h1; cases h1
    exact ⟨h2, h3⟩
  | j :: js, rest, f, hc, h => by
    obtain ⟨e', h1, h2, h3⟩ := h
    obtain ⟨h4, h5⟩ := chain_move hi hkn js (fun k hk => hc k (List.mem_cons_of_mem _ hk)) h3
    obtain ⟨ho, ho'⟩ := hc j (List.mem_cons_self ..) e' h1
    refine ⟨pre_back (hkn _ _ hi) ho' h4, e', h1, pre_fwd ho h2, ?_⟩
    rw [post_comm ho ho']; exact h5

/-- An operation has an effect. -/
def EffOk (P : Program) (ops : Array Oper) (b : List Nat) (N oo : Nat) (o : Oper) (e : Eff) : Prop :=
  ∀ (z : Start) (s : S) (a : Act) (w : World), Sim z s a w → s.N = N → s.b = b → s.o = oo → s.toF.pre e → ∀ (K : Act → World → Prop) (Q : Exit → Act → World → Prop), (∀ a' w', Sim z (afterE s e) a' w' → K a' w') →
    if Region.wanted o (yielded ops a.tmps) then o.wpIn (WideR z.ro) 1 P a w K Q else K (a.put o.dst undef) w

def unl (n : Nat) (listed : Array Bool) : List Nat := (List.range n).filter fun i => !listed.getD i true
theorem mem_unl {n : Nat} {listed : Array Bool} {i : Nat} : i ∈ unl n listed ↔ i < n ∧ listed.getD i true = false := by
  simp [unl]
theorem unl_set {n : Nat} {listed : Array Bool} {i : Nat} (hi : listed.getD i true = false) {js rest : List Nat} (h : unl n listed = js ++ i :: rest) : unl n (listed.setIfInBounds i true) = js ++ rest := by
  have hlt : i < listed.size := by
    rcases Nat.lt_or_ge i listed.size with h' | h'
    · exact h'
    · simp [Array.getElem?_eq_none h'] at hi
  have hnd : (unl n listed).Nodup := List.Pairwise.filter _ List.nodup_range
  have e1 : unl n (listed.setIfInBounds i true) = (unl n listed).filter fun k => k != i := by
    unfold unl
    rw [List.filter_filter]
    refine List.filter_congr fun k _ => ?_
    by_cases hk : i = k
    · subst hk; simp [hlt]
    · rw [getD_set_ne true hk]
      have : (k != i) = true := by simpa using fun e => hk e.symm
      simp [this]
  rw [e1, h] at *
  rw [List.nodup_append] at hnd
  obtain ⟨h1, h2, h3⟩ := hnd
  rw [List.nodup_cons] at h2
  rw [List.filter_append, List.filter_cons]
  simp only [bne_self_eq_false, Bool.false_eq_true, if_false]
  congr 1
  · refine List.filter_eq_self.2 fun k hk => ?_
    have := h3 k hk i (List.mem_cons_self ..)
    simpa using this
  · refine List.filter_eq_self.2 fun k hk => ?_
    have : k ≠ i := fun e => h2.1 (e ▸ hk)
    simpa using this

theorem unl_sorted (n : Nat) (listed : Array Bool) : (unl n listed).Pairwise (· < ·) := List.Pairwise.filter _ List.pairwise_lt_range

/-- Operation 'j' comes ahead of operation 'i' in any order. -/
inductive Bef (ops : Array Oper) : Nat → Nat → Prop where
  | one {j i : Nat} {o : Oper} {x : Edge} (h : ops[i]? = some o) (hx : x ∈ o.after) (hb : Region.binds .any x = true) (hj : x.on = j) : Bef ops j i
  | step {j i : Nat} {o : Oper} {x : Edge} (h : ops[i]? = some o) (hx : x ∈ o.after) (hb : Region.binds .any x = true) (hj : Bef ops j x.on) : Bef ops j i
/-- What is listed has its predecessors listed. -/
def Clo (ops : Array Oper) (listed : Array Bool) : Prop := ∀ i o, ops[i]? = some o → listed.getD i false = true → ∀ x ∈ o.after, Region.binds .any x = true → listed.getD x.on false = true
theorem Clo.bef {ops : Array Oper} {listed : Array Bool} (hc : Clo ops listed) {j i : Nat} (h : Bef ops j i) : listed.getD i false = true → listed.getD j false = true := by
  induction h with
  | one h hx hb hj => intro hi; rw [← hj]; exact hc _ _ h hi _ hx hb
  | step h hx hb hj ih => intro hi; exact ih (hc _ _ h hi _ hx hb)
theorem Clo.ready {ops : Array Oper} {listed : Array Bool} (hc : Clo ops listed) {j i : Nat} {o : Oper} (hi : ops[i]? = some o) (h3 : ∀ x ∈ o.after, Region.binds .any x = true → listed.getD x.on false = true) (h : Bef ops j i) : listed.getD j false = true := by
  cases h with
  | one h hx hb hj => rw [hi] at h; cases h; rw [← hj]; exact h3 _ hx hb
  | step h hx hb hj => rw [hi] at h; cases h; exact hc.bef hj (h3 _ hx hb)
theorem Clo.set {ops : Array Oper} {listed : Array Bool} (hc : Clo ops listed) {i : Nat} {o : Oper} (hi : ops[i]? = some o) (h3 : ∀ x ∈ o.after, Region.binds .any x = true → listed.getD x.on false = true) : Clo ops (listed.setIfInBounds i true) := by
  have up : ∀ k, listed.getD k false = true → (listed.setIfInBounds i true).getD k false = true := by
    intro k hk
    simp only [Array.getD_eq_getD_getElem?, Array.getElem?_setIfInBounds] at hk ⊢
    split
    · split
      · rfl
      · rename_i h1 h2; subst h1; rw [Array.getElem?_eq_none (by omega)] at hk; exact hk
    · exact hk
  intro k o' hk hl x hx hb
  refine up _ ?_
  by_cases e : i = k
  · subst e; rw [hi] at hk; cases hk; exact h3 x hx hb
  · refine hc k o' hk ?_ x hx hb
    simp only [Array.getD_eq_getD_getElem?, Array.getElem?_setIfInBounds, if_neg e] at hl ⊢
    exact hl

structure Fits (P : Program) (ops : Array Oper) (b : List Nat) (N oo : Nat) (E : Nat → Option Eff) : Prop where
  ok : ∀ i o, ops[i]? = some o → ∃ e, E i = some e ∧ EffOk P ops b N oo o e
  known : ∀ j e, E j = some e → knownT e = true
  back : ∀ i o, ops[i]? = some o → ∀ e ∈ o.after, Region.binds .any e = true → e.on < i
  comm : ∀ j i oi e' e, j < i → ops[i]? = some oi → E j = some e' → E i = some e → Bef ops j i ∨ (Off e e' ∧ Off e' e)

theorem wpAny_eff {P : Program} {ops : Array Oper} {b : List Nat} {N oo : Nat} {E : Nat → Option Eff} (hF : Fits P ops b N oo E) {z : Start} {Q : Exit → S → Prop} {fin : S} (hQ : Q .normal fin) :
    ∀ (fuel : Nat) (listed : Array Bool) (f : FS) (a : Act) (w : World), Clo ops listed → listed.size = ops.size → (unl ops.size listed).length ≤ fuel → f.N = N → f.b = b → f.o = oo → chain E fin.toF (unl ops.size listed) f → FSim z f a w →
      wpAnyIn (WideR z.ro) 1 P .any ops (Post z Q) fuel listed a w := by
  have done : ∀ (listed : Array Bool) (f : FS) (a : Act) (w : World), listed.size = ops.size → Region.ready .any ops listed = [] → chain E fin.toF (unl ops.size listed) f → FSim z f a w → Post z Q .normal a w := by
    intro listed f a w hsz hr hc hs
    cases hu : unl ops.size listed with
    | nil =>
      rw [hu] at hc
      have hc : f = fin.toF := hc
      subst hc
      exact ⟨fin, hQ, hs.sim⟩
    | cons i l =>
      exfalso
      have him : i ∈ unl ops.size listed := by rw [hu]; exact List.mem_cons_self ..
      obtain ⟨hi, hl⟩ := mem_unl.1 him
      have : i ∈ Region.ready .any ops listed := by
        refine mem_ready.2 ⟨hl, ops[i], by simp [hi], fun e he hb => ?_⟩
        have hlt := hF.back i ops[i] (by simp [hi]) e he hb
        cases hc2 : listed.getD e.on false with
        | true => rfl
        | false =>
          have h1 : e.on < listed.size := by omega
          have h2 : listed.getD e.on true = false := by
            simp [h1] at hc2 ⊢; exact hc2
          have hm : e.on ∈ unl ops.size listed := mem_unl.2 ⟨by omega, h2⟩
          have hp := unl_sorted ops.size listed
          rw [hu] at hm hp
          rcases List.mem_cons.1 hm with h3 | h3
          · omega
          · have := (List.pairwise_cons.1 hp).1 _ h3
            omega
      rw [hr] at this; cases this
  intro fuel
  induction fuel with
  | zero =>
    intro listed f a w hclo hsz hle hN hb ho hc hs
    have hu : unl ops.size listed = [] := List.eq_nil_of_length_eq_zero (by omega)
    have hr : Region.ready .any ops listed = [] := by
      cases hr : Region.ready .any ops listed with
      | nil => rfl
      | cons i l =>
        have : i ∈ Region.ready .any ops listed := by rw [hr]; exact List.mem_cons_self ..
        obtain ⟨h1, o, h2, _⟩ := mem_ready.1 this
        have : i ∈ unl ops.size listed := mem_unl.2 ⟨(Array.getElem?_eq_some_iff.1 h2).1, h1⟩
        rw [hu] at this; cases this
    exact ⟨hr, done listed f a w hsz hr hc hs⟩
  | succ fuel ih =>
    intro listed f a w hclo hsz hle hN hb ho hc hs
    refine ⟨fun hr => done listed f a w hsz hr hc hs, fun i hi => ?_⟩
    obtain ⟨h1, o, h2, h3⟩ := mem_ready.1 hi
    have him : i ∈ unl ops.size listed := mem_unl.2 ⟨(Array.getElem?_eq_some_iff.1 h2).1, h1⟩
    obtain ⟨js, rest, hsplit⟩ := List.append_of_mem him
    obtain ⟨e, hE, hok⟩ := hF.ok i o h2
    have hcomm : ∀ j, j ∈ js → ∀ e', E j = some e' → Off e e' ∧ Off e' e := by
      intro j hj e' he'
      have hp := unl_sorted ops.size listed
      rw [hsplit, List.pairwise_append] at hp
      have hlt : j < i := hp.2.2 j hj i (List.mem_cons_self ..)
      rcases hF.comm j i o e' e hlt h2 he' hE with hbf | h
      · exfalso
        have hl := hclo.ready h2 h3 hbf
        have hjm : j ∈ unl ops.size listed := by rw [hsplit]; exact List.mem_append_left _ hj
        have h4 := (mem_unl.1 hjm)
        have h5 : j < listed.size := by omega
        have h6 := h4.2
        simp [h5] at hl h6
        rw [hl] at h6; cases h6
      · exact h
    rw [hsplit] at hc
    obtain ⟨hpre, hch⟩ := chain_move hE hF.known js hcomm hc
    obtain ⟨s, hsim, rfl⟩ := hs
    have := hok z s a w hsim hN hb ho hpre (wpAnyIn (WideR z.ro) 1 P .any ops (Post z Q) fuel (listed.setIfInBounds i true)) (Post z Q) fun a' w' hsim' => by
      refine ih (listed.setIfInBounds i true) (s.toF.post e) a' w' (hclo.set h2 h3) (by simpa using hsz) ?_ hN hb ho ?_ ⟨_, hsim', toF_after s e⟩
      · rw [unl_set h1 hsplit]
        rw [hsplit] at hle
        simp only [List.length_append, List.length_cons] at hle ⊢
        omega
      · rw [unl_set h1 hsplit]; exact hch
    unfold wpOpIn
    rw [h2]
    dsimp only
    split
    · rename_i hw; rw [if_pos hw] at this; exact this
    · rename_i hw; rw [if_neg hw] at this; exact ⟨fun _ _ => trivial, this⟩

theorem AWp.any {P : Program} {ops : Array Oper} {E : Nat → Option Eff} {Q : Exit → S → Prop} {s fin : S} {id : Nat} (hm : P.follows .mixedOrders = true) (hF : Fits P ops s.b s.N s.o E)
    (hc : chain E fin.toF (List.range ops.size) s.toF) (hQ : Q .normal fin) : AWp P (.region id ops true) Q s := by
  intro z a w hs
  refine wpIn_region_any hm ?_
  have e : unl ops.size (Array.replicate ops.size false) = List.range ops.size := by
    refine List.filter_eq_self.2 fun k hk => ?_
    simp at hk
    simp [hk]
  refine wpAny_eff hF hQ ops.size _ s.toF a _ (fun i o _ hl => by simp [Array.getD_eq_getD_getElem?, Array.getElem?_replicate] at hl; split at hl <;> cases hl) (by simp) ?_ rfl rfl rfl (by rw [e]; exact hc) ⟨s, ?_, rfl⟩
  · rw [e]; simp
  · obtain ⟨St, g, hW, hT, hK⟩ := hs
    refine ⟨St, g, ⟨⟨hW.frm.os, hW.frm.tape, hW.frm.output, hW.frm.size, hW.frm.block⟩, hW.st0, hW.st1, hW.ow, fun r b hb => ?_, hW.sep⟩, ⟨hT.1, hT.2.1, fun d => Rel.mono (w := w) (w' := { w with drawn := w.drawn + 1 }) (fun _ h => h) (fun _ _ => rfl) (hT.2.2 d)⟩, hK.to (fun _ h => h) (fun _ _ => rfl) rfl (fun _ _ => rfl)⟩
    obtain ⟨v, h1, h2⟩ := hW.ok r b hb
    exact ⟨v, h1, BlkOk.mono (w := w) (w' := { w with drawn := w.drawn + 1 }) h2 (fun _ h => h) (fun _ _ => rfl) (fun _ _ => rfl) (r := 0) (fun _ _ => rfl) (.inr rfl)⟩

end Go.Abs
namespace Go.Abs
open Go

/-- A call by contract: what the callee sees, takes, gives and returns. -/
structure CC where
  args : List V
  take : List Nat
  keep : List Nat
  h1 : Heap
  r : V
  nw : List Nat
  lent : List Nat
  gl : List Nat

def gSlots (l : List Operand) : List Nat := l.filterMap fun
  | .global g => some (G0 + g)
  | _ => none
def looksT (ops : Array Oper) (t : List (Nat × V)) (o : Oper) (gl : List Nat) : List (Nat × V) := (o.looksAt ops ++ gSlots o.op.operands.toList ++ gl.map (G0 + ·)).filterMap fun d => if (tget t d).isAny then none else some (d, tget t d)
mutual
def V.ids : V → List Nat
  | .own r => [r]
  | .ptr r _ => [r]
  | .oelem r _ _ _ => [r]
  | .osl r _ _ _ => [r]
  | .agg cs => V.idsAll cs
  | .tup cs => V.idsAll cs
  | .fn _ cs => V.idsAll cs
  | .opt _ v => V.ids v
  | _ => []
def V.idsAll : List V → List Nat
  | [] => []
  | v :: l => V.ids v ++ V.idsAll l
end
def Blk.ids : Blk → List Nat
  | .cells _ cs => V.idsAll cs
  | .yld o _ => yoIds o
  | _ => []
def blks (h : Heap) (ids : List Nat) : Heap := ids.eraseDups.filterMap fun r => match h.get r with
  | some b => some (r, b)
  | none => none
def grow (h : Heap) : Nat → List Nat → List Nat
  | 0, ids => ids
  | n + 1, ids => match (ids.flatMap fun r => match h.get r with | some b => b.ids | none => []).filter (fun k => !ids.contains k) with
    | [] => ids
    | l => grow h n (ids ++ l)
def opIds (t : List (Nat × V)) (l : List Operand) : List Nat := V.idsAll (l.map (raw t))

def dstOk (o : Oper) (N : Nat) : Bool := match o.dst with
  | some d => decide (d < N)
  | none => true
def effP (P : Program) (W : List Nat) (ops : Array Oper) (N : Nat) (t0 : List (Nat × V)) (hr : Heap) (o : Oper) : Option (Eff × Option Prop) :=
  if dstOk o N then
    match o.guard with
    | none => match pval P hr (wrapped W o) true t0 o.op with
      | some (v, φ) => some (⟨o.dst, v, t0, hr, [], [], []⟩, cond2 (triv t0 o.op) φ (noOpt t0 (needs o.op)) (obl true t0 (needs o.op)))
      | none => none
    | some (j, want) => match guardC ops t0 j want, o.dst with
      | some c, some d => match pval P hr (wrapped W o) c t0 o.op with
        | some (v, φ) => some (⟨some d, .opt c v, t0, hr, [], [], []⟩, cond2 (triv t0 o.op) (c = true → φ) (noOpt t0 (needs o.op)) (obl c t0 (needs o.op)))
        | none => if c then none else some (⟨some d, .opt c (.bool false), t0, hr, [], [], []⟩, none)
      | _, _ => none
  else none

def guardOn (ops : Array Oper) (t0 : List (Nat × V)) (o : Oper) : Bool := match o.guard with
  | none => true
  | some (j, want) => match guardC ops t0 j want with
    | some c => c
    | none => false
def nwOf (o : Oper) (t0 : List (Nat × V)) (off : Nat) : List Nat := match o.dst with
  | none => []
  | some d => match o.op with
    | .call cl => match cl.args.toList with
      | x :: _ => match ev t0 x with
        | .own r => [r]
        | _ => [d + off]
      | _ => [d + off]
    | _ => [d + off]

def outB (b : List Nat) (h1 : Heap) (nw : List Nat) (r : V) : Bool :=
  V.within (hids h1) r && Heap.within (hids h1) h1 && b.all (fun k => !nw.contains k) && nw.all (fun k => (hids h1).contains k)
theorem outB_ok {s : S} {h0 h1 : Heap} {nw : List Nat} {r : V} (h : outB s.b h1 nw r = true) {lent : List Nat} (hl : lent = [] ∨ (r.flat = true ∧ Heap.Flat h1))
    (hd : ∀ k, k ∈ hids h1 → k ∉ hids h0 → s.h.get k = none) : outOk s lent h0 h1 nw r := by
  unfold outB at h
  simp only [Bool.and_eq_true, List.all_eq_true, Bool.not_eq_true', List.contains_eq_mem, decide_eq_true_eq, decide_eq_false_iff_not] at h
  refine ⟨h.1.1.1, h.1.1.2, fun k hk => ?_, h.1.2, h.2, hl⟩
  rw [get_dels]
  split
  · rfl
  · rename_i hn; exact hd k hk hn

def dstV (o : Oper) (t : List (Nat × V)) : V := match o.dst with
  | some d => tget t d
  | none => .any
def effH (P : Program) (ops : Array Oper) (N : Nat) (b : List Nat) (off : Nat) (t0 : List (Nat × V)) (h0 : Heap) (o : Oper) : Option (Eff × Option Prop) :=
  if dstOk o N && guardOn ops t0 o then
    let nw := nwOf o t0 off
    match hop P ⟨N, t0, h0, b ++ (hids h0).filter (fun k => !nw.contains k), off⟩ o.dst o.op with
    | some (s1, φ) =>
      if outB b s1.h nw (dstV o s1.t) && (hids s1.h).all (fun k => nw.contains k || (hids h0).contains k) then
        some (⟨o.dst, dstV o s1.t, t0, [], h0, s1.h, nw⟩, cond2 (trivH o.op) φ (noOpt t0 (needs o.op)) (obl true t0 (needs o.op)))
      else none
    | none => none
  else none

/-- What a call by contract asks. -/
def callP (P : Program) (c : Bool) (fid : FuncId) (gs : List (Nat × V)) (bk : List Nat) (h0 : Heap) (hr : Heap) (lent : List Nat) (args args' : List V) (r : V) (h1 : Heap) : Prop :=
  (c = true → Spec P fid gs bk h0 args' (fun v h => v = r ∧ h = h1)) ∧ (c = true → VLes (args.map (lendV hr lent)) args') ∧ (lent = [] ∨ (r.flat = true ∧ Heap.Flat h1))

def effC (P : Program) (ops : Array Oper) (N : Nat) (b : List Nat) (t0 : List (Nat × V)) (hr h0 : Heap) (cc : CC) (o : Oper) : Option (Eff × Option Prop) :=
  match o.op with
  | .call cl => match cl.callee with
    | .value f => match ev t0 f with
      | .fn (.func fid) caps =>
        if dstOk o N && callable P fid && outB b cc.h1 cc.nw cc.r && cc.lent.all (fun r => (h0.get r).isNone && (match hr.get r with | some (.rows _ _ _ _) => true | _ => false)) &&
          (hids cc.h1).all (fun k => cc.nw.contains k || cc.keep.contains k) then
          match o.guard with
          | none => some (⟨o.dst, cc.r, t0, hr, h0, cc.h1, cc.nw⟩, cond2 false (callP P true fid (cc.gl.map fun g => (g, tget t0 (G0 + g))) cc.keep h0 hr cc.lent (cl.args.toList.map (ev t0) ++ caps) cc.args cc.r cc.h1) (noOpt t0 (needs o.op)) (obl true t0 (needs o.op)))
          | some (j, want) => match guardC ops t0 j want with
            | some c => match o.dst, h0, cc.h1, cc.nw with
              | some d, [], [], [] => some (⟨some d, .opt c cc.r, t0, hr, [], [], []⟩, cond2 false (callP P c fid (cc.gl.map fun g => (g, tget t0 (G0 + g))) cc.keep [] hr cc.lent (cl.args.toList.map (ev t0) ++ caps) cc.args cc.r []) (noOpt t0 (needs o.op)) (obl c t0 (needs o.op)))
              | _, _, _, _ => if c then some (⟨o.dst, cc.r, t0, hr, h0, cc.h1, cc.nw⟩, cond2 false (callP P true fid (cc.gl.map fun g => (g, tget t0 (G0 + g))) cc.keep h0 hr cc.lent (cl.args.toList.map (ev t0) ++ caps) cc.args cc.r cc.h1) (noOpt t0 (needs o.op)) (obl true t0 (needs o.op))) else none
            | none => none
        else none
      | _ => none
    | _ => none
  | _ => none

theorem tget_sub {T : Nat → V} : ∀ {t0 : List (Nat × V)}, (∀ p ∈ t0, T p.1 = p.2) → ∀ d, tget t0 d = T d ∨ tget t0 d = .any
  | [], _, d => .inr rfl
  | (k, v) :: t, h, d => by
    simp only [tget]
    split
    · rename_i e; subst e; exact .inl (h (k, v) (List.mem_cons_self ..)).symm
    · exact tget_sub (fun p hp => h p (List.mem_cons_of_mem _ hp)) d
theorem hcov_of {h : Heap} : ∀ {l : Heap}, (∀ p ∈ l, ∃ b, h.get p.1 = some b ∧ BLe b p.2) → hcov h l
  | [], _ => trivial
  | (r, b') :: _l, hh => ⟨hh (r, b') (List.mem_cons_self ..), hcov_of fun p hp => hh p (List.mem_cons_of_mem _ hp)⟩
theorem pre_cov {s : S} {e : Eff} (h : s.toF.pre e) : hcov s.h e.h0 := hcov_of fun p hp => by
  obtain ⟨b', h1, h2⟩ := h.h0 p hp
  exact ⟨b', h1, h2.ble⟩
theorem pre_bok {St : Nat → Prop} {z : Start} {w : World} {g : Gh} {s : S} {e : Eff} (hW : WSim z St g s.h w) (h : s.toF.pre e) : BOk St w g e.hr := by
  intro r b hb
  obtain ⟨b', h1, h2⟩ := h.hr (r, b) (get_mem2 hb)
  obtain ⟨v, h3, h4⟩ := hW.ok r b' h1
  exact ⟨v, h3, h2.ble _ _ _ _ h4⟩
theorem pre_tsim {St : Nat → Prop} {w : World} {g : Gh} {s : S} {a : Act} {e : Eff} (hT : TSim St w g s.N s.t a) (h : s.toF.pre e) : TSim St w g s.N e.t0 a :=
  hT.get_any fun d => tget_sub (T := tget s.t) h.t0 d

theorem wanted_none {o : Oper} {ops : Array Oper} {a : Act} (hg : o.guard = none) : Region.wanted o (yielded ops a.tmps) = true := by simp [Region.wanted, hg]
theorem wanted_guard {St : Nat → Prop} {w : World} {g : Gh} {N : Nat} {t : List (Nat × V)} {a : Act} (hT : TSim St w g N t a) {o : Oper} {ops : Array Oper} {j : Nat} {want c : Bool} (hg : o.guard = some (j, want)) (hgc : guardC ops t j want = some c) :
    Region.wanted o (yielded ops a.tmps) = c := by
  unfold guardC at hgc
  split at hgc
  case h_2 => cases hgc
  rename_i dj hdj
  split at hgc
  case isTrue => cases hgc
  rename_i hdjG
  have hrel := hT.tmp (d := dj) (by omega)
  have hy : yielded ops a.tmps j = match a.tmps.getD dj undef with | .bool b => some b | _ => none := by
    unfold yielded
    rw [hdj]
    simp only [Option.bind_some]
    by_cases hlt : dj < a.tmps.size
    · simp only [hlt, Array.getElem?_eq_getElem, Array.getD_eq_getD_getElem?, Option.getD_some]
      generalize a.tmps[dj] = q; cases q <;> rfl
    · simp [Array.getElem?_eq_none (Nat.le_of_not_lt hlt), undef]
  unfold Region.wanted
  rw [hg]
  dsimp only
  rw [hy]
  split at hgc
  · rename_i b hb; cases hgc; rw [hb] at hrel; rw [hrel.bool_inv]
    cases b <;> cases want <;> rfl
  · rename_i c' b hb; cases hgc; rw [hb] at hrel
    generalize a.tmps.getD dj undef = u at hrel
    cases hrel with
    | opt _ _ _ _ h h0 =>
      cases c' with
      | true => rw [(h rfl).bool_inv]; cases b <;> cases want <;> rfl
      | false => rw [h0 rfl]; rfl
  · cases hgc

theorem dN_of {o : Oper} {N : Nat} (h : dstOk o N = true) : ∀ k, o.dst = some k → k < N := by
  intro k hk; unfold dstOk at h; rw [hk] at h; simpa using h

theorem put_pure {z : Start} {s : S} {a : Act} {w : World} {St : Nat → Prop} {g : Gh} (hW : WSim z St g s.h w) (hT : TSim St w g s.N s.t a) (hK : KD z St w g s.b a) {d : Option Nat} (hd : ∀ k, d = some k → k < s.N) {v : V} {x : Value}
    (hx : Rel St w g v x) (t0 : List (Nat × V)) (hr : Heap) : Sim z (afterE s ⟨d, v, t0, hr, [], [], []⟩) (a.put d x) w := by
  have : afterE s ⟨d, v, t0, hr, [], [], []⟩ = ⟨s.N, putT d v s.t, s.h, s.b, s.o⟩ := by simp [afterE, tdrops, hdrops, dels, hids]
  rw [this]
  cases d with
  | none => exact ⟨St, g, hW, hT, hK⟩
  | some k => exact ⟨St, g, hW, hT.put (hd k rfl) hx, hK.to (fun _ h => h) (fun _ _ => rfl) (put_defers ..) (fun _ _ => rfl)⟩

theorem wanted_on {St : Nat → Prop} {w : World} {g : Gh} {N : Nat} {t : List (Nat × V)} {a : Act} (hT : TSim St w g N t a) {o : Oper} {ops : Array Oper} (h : guardOn ops t o = true) : Region.wanted o (yielded ops a.tmps) = true := by
  unfold guardOn at h
  split at h
  · rename_i hg; exact wanted_none hg
  · rename_i j want hg
    split at h
    · rename_i c hgc; rw [wanted_guard hT hg hgc]; exact h
    · cases h
theorem effP_ok {P : Program} {W : List Nat} {ops : Array Oper} {N : Nat} {b : List Nat} {oo : Nat} {t0 : List (Nat × V)} {hr : Heap} {o : Oper} {e : Eff} {φ : Option Prop} {ψ : Prop} (h : effP P W ops N t0 hr o = some (e, φ)) (hφ : andO φ ψ) :
    e.t0 = t0 ∧ e.hr = hr ∧ e.h0 = [] ∧ e.h1 = [] ∧ EffOk P ops b N oo o e ∧ ψ := by
  unfold effP at h
  split at h
  case isFalse => cases h
  rename_i hdN
  have hdN := dN_of hdN
  split at h
  · rename_i hg
    split at h
    case h_2 => cases h
    rename_i v φ' hv
    cases h
    obtain ⟨h1, h2, h3⟩ := cond2_ok hφ (triv_pval hv) noOpt_obl
    refine ⟨rfl, rfl, rfl, rfl, ?_, h3⟩
    rintro z s a w ⟨St, g, hW, hT, hKp⟩ hN _ _ hpre K Q hK
    subst hN
    obtain ⟨x, hx, hrel⟩ := run_pval (P := P) (pre_bok hW hpre) (pre_tsim hT hpre) rfl hv h1 h2
    rw [if_pos (wanted_none hg)]
    refine opUp (pval_nd hv) ?_
    unfold Oper.wp
    rw [hx, Oper.upon_value]
    exact hK _ _ (put_pure hW hT hKp hdN hrel _ _)
  · rename_i j want hg
    split at h
    case h_2 => cases h
    rename_i c d hgc hd
    split at h
    case h_2 =>
      split at h
      case isTrue => cases h
      rename_i hcf
      cases h
      refine ⟨rfl, rfl, rfl, rfl, ?_, hφ⟩
      rintro z s a w ⟨St, g, hW, hT, hKp⟩ hN _ _ hpre K Q hK
      subst hN
      rw [wanted_guard (pre_tsim hT hpre) hg hgc, if_neg hcf, hd]
      have hcf : c = false := by simpa using hcf
      subst hcf
      exact hK _ _ (put_pure hW hT hKp (by rw [← hd]; exact hdN) (.opt _ _ _ _ (fun h => by cases h) (fun _ => rfl)) _ _)
    rename_i v φ' hv
    cases h
    obtain ⟨h1, h2, h3⟩ := cond2_ok hφ (fun ht _ => triv_pval hv ht) noOpt_obl
    refine ⟨rfl, rfl, rfl, rfl, ?_, h3⟩
    rintro z s a w ⟨St, g, hW, hT, hKp⟩ hN _ _ hpre K Q hK
    subst hN
    rw [wanted_guard (pre_tsim hT hpre) hg hgc]
    cases c with
    | true =>
      obtain ⟨x, hx, hrel⟩ := run_pval (P := P) (pre_bok hW hpre) (pre_tsim hT hpre) rfl hv (h1 rfl) h2
      rw [if_pos rfl]
      refine opUp (pval_nd hv) ?_
      unfold Oper.wp
      rw [hx, Oper.upon_value, hd]
      exact hK _ _ (put_pure hW hT hKp (by rw [← hd]; exact hdN) (.opt _ _ _ _ (fun _ => hrel) (fun h => by cases h)) _ _)
    | false =>
      rw [if_neg (by simp), hd]
      exact hK _ _ (put_pure hW hT hKp (by rw [← hd]; exact hdN) (.opt _ _ _ _ (fun h => by cases h) (fun _ => rfl)) _ _)

theorem newBox_b {s s' : S} {d : Nat} {e : TypeId} {v : V} {φ : Prop} (h : newBox s d e v = some (s', φ)) : s'.b = s.b := by
  unfold newBox at h; split at h <;> cases h; rfl
theorem hop_b {P : Program} {s s' : S} {d : Option Nat} {op : Op} {φ : Prop} (h : hop P s d op = some (s', φ)) : s'.b = s.b := by
  cases op <;> simp only [hop, reduceCtorEq] at h
  case alloc => split at h; exact newBox_b h; cases h
  case box => split at h; exact newBox_b h; cases h
  case store =>
    split at h
    · split at h
      · split at h <;> cases h; rfl
      · cases h
    · split at h
      · split at h <;> cases h; rfl
      · cases h
    · cases h
  case buildSlice =>
    split at h
    · unfold buildSliceV at h
      split at h
      · split at h
        · split at h
          · split at h <;> cases h; rfl
          · cases h
        · cases h
      · cases h
    · cases h
  case makeSlice =>
    split at h
    · unfold makeSliceV at h
      split at h
      · split at h
        · split at h
          · dsimp only at h; split at h <;> cases h; rfl
          · cases h
        · cases h
      · cases h
    · cases h
  case call =>
    split at h
    · split at h
      · unfold appendV at h
        split at h
        · split at h
          · split at h
            · split at h
              · split at h <;> cases h; rfl
              · cases h
            · cases h
          · cases h
        · cases h
      · unfold appendZV at h
        split at h
        · split at h
          · split at h
            · dsimp only at h
              split at h <;> cases h; rfl
            · cases h
          · cases h
        · cases h
    · unfold clearV at h
      split at h
      · split at h
        · split at h <;> cases h; rfl
        · cases h
      · cases h
    · cases h
/-- An operation runs alike whatever calls are deferred. -/
theorem wp_swap {P : Program} {o : Oper} {a : Act} {w : World} {K0 K : Act → World → Prop} {Q : Exit → Act → World → Prop} (h : o.wp P { a with defers := [] } w (fun a1 w1 => K0 a1 w1 ∧ a1.defers = []) (fun _ _ _ => False))
    (hK : ∀ x w', K0 (({ a with defers := [] } : Act).put o.dst x) w' → K (a.put o.dst x) w') : o.wp P a w K Q := by
  have he : (execOp ({ a with defers := [] } : Act).eval o) = execOp a.eval o := rfl
  unfold Oper.wp at h ⊢
  rw [he] at h
  revert h
  generalize (execOp a.eval o).run P w = res
  intro h
  cases res with
  | ok nx w' =>
    cases nx with
    | value v => exact hK _ _ h.1
    | skip => exact hK _ _ h.1
    | defer d => have := h.2; rw [put_defers] at this; cases this
    | enter f args =>
      refine Calls.mono h ?_
      intro e w'' he
      cases e with
      | returned v => exact hK _ _ he.1
      | panicked c => exact he.elim
      | outgrown => obtain ⟨_, _, h⟩ := he; exact h.elim
    | row r args => exact Rows.mono h fun v w'' hv => hK _ _ hv.1
    | _ => exact h.elim
  | halt hl w' => cases hl <;> exact h.elim
theorem effH_ok {P : Program} {ops : Array Oper} {N : Nat} {b : List Nat} {oo : Nat} {t0 : List (Nat × V)} {h0 : Heap} {o : Oper} {e : Eff} {φ : Option Prop} {ψ : Prop} (h : effH P ops N b oo t0 h0 o = some (e, φ)) (hφ : andO φ ψ) :
    e.t0 = t0 ∧ e.hr = [] ∧ e.h0 = h0 ∧ EffOk P ops b N oo o e ∧ ψ := by
  unfold effH at h
  split at h
  case isFalse => cases h
  rename_i hc
  rw [Bool.and_eq_true] at hc
  have hdN := dN_of hc.1
  have hg := hc.2
  dsimp only at h
  split at h
  case h_2 => cases h
  rename_i s1 φ' hn
  split at h
  case isFalse => cases h
  rename_i hc2
  rw [Bool.and_eq_true] at hc2
  cases h
  obtain ⟨h1, h2, h3⟩ := cond2_ok hφ (triv_hop hn) noOpt_obl
  refine ⟨rfl, rfl, rfl, ?_, h3⟩
  rintro z s a w ⟨St, g, hW, hT, hKp⟩ hN hb ho hpre K Q hK
  subst hN; subst hb; subst ho
  rw [if_pos (wanted_on (pre_tsim hT hpre) hg)]
  have hcv := pre_cov hpre
  dsimp only at hcv
  have hin := frame_in hW hcv [] rfl
  have hT0 := pre_tsim hT hpre
  have hT1 : TSim (subStart z St g s.h w h0 []).St w g s.N t0 { a with defers := [] } := ⟨hT0.1, hT0.2.1, fun d => (hT0.2.2 d).mono (fun _ h => .inl h) (fun _ _ => rfl)⟩
  refine opUp (hop_nd hn) ?_
  refine wp_swap (K0 := fun a1 w1 => Sim (subStart z St g s.h w h0 []) s1 a1 w1) (run_hop (z := subStart z St g s.h w h0 []) (a := { a with defers := [] }) ⟨_, g, hin, hT1, ⟨fun _ _ => rfl, ⟨[], .nil, rfl, fun D hD => by cases hD⟩, fun _ h => (by cases h), fun _ => rfl⟩⟩ hn h1 h2 fun x w' hsim => ⟨hsim, put_defers ..⟩) fun x w' hsim => ?_
  obtain ⟨St', g', hW', hT', hKp'⟩ := hsim
  refine hK _ _ (frame_out (d := o.dst) hW hT hKp hcv [] hdN hW' ?_ ?_ (outB_ok hc2.1 (.inl rfl) fun k hk hk0 => ?_) rfl)
  · intro hne
    cases hd : o.dst with
    | none => exact absurd hd hne
    | some d =>
      have hlt : d < a.tmps.size := by rw [hT.2.1]; exact hdN d hd
      have hr := hT'.tmp (d := d) (Nat.lt_of_lt_of_le hlt hT.1.2)
      rw [hd] at hr
      simpa [dstV, hd, Act.put, hlt] using hr
  · intro k hk hnk
    have hkb : k ∈ s1.b := by
      have h4 := List.all_eq_true.1 hc2.2 k hk
      simp only [Bool.or_eq_true, List.contains_eq_mem, decide_eq_true_eq] at h4
      have hsb : s1.b = s.b ++ (hids h0).filter (fun k => !(nwOf o t0 s.o).contains k) := hop_b hn
      rw [hsb]
      refine List.mem_append_right _ (List.mem_filter.2 ⟨h4.resolve_left hnk, by simpa using hnk⟩)
    exact hKp'.keep k hkb
  · have h4 := hpre.h1 k hk hk0
    exact h4

theorem lendV_sub {h hr : Heap} : ∀ (lent : List Nat), (∀ r, r ∈ lent → ∃ e sz n f, hr.get r = some (.rows e sz n f) ∧ h.get r = some (.rows e sz n f)) → ∀ v, lendV h lent v = lendV hr lent v
  | [], _, _ => rfl
  | r :: L, hL, v => by
    obtain ⟨e, sz, n, f, h1, h2⟩ := hL r (List.mem_cons_self ..)
    simp only [lendV, h1, h2]
    exact lendV_sub L (fun q hq => hL q (List.mem_cons_of_mem _ hq)) _

theorem run_call {P : Program} {St : Nat → Prop} {w : World} {g : Gh} {N : Nat} {t : List (Nat × V)} {a : Act} (hT : TSim St w g N t a) {o : Oper} {cl : Call} {f : Operand} {fid : FuncId} {caps : List V} {c : Bool} (hc : c = true)
    (hop : o.op = .call cl) (hcal : cl.callee = .value f) (hfx : ev t f = .fn (.func fid) caps) (hcb : callable P fid = true) (ho : obl c t (needs o.op)) :
    ∃ vals, (execOp a.eval o).run P w = .ok (.enter fid vals) w ∧ vals.size = (cl.args.toList.map (ev t) ++ caps).length ∧
      ∀ i, i < (cl.args.toList.map (ev t) ++ caps).length → Rel St w g ((cl.args.toList.map (ev t) ++ caps).getD i .any) (vals.getD i undef) := by
  have E := rel_ev hT hc ho
  rw [hop] at E
  have hfr := E f (by simp [needs, Op.operands, Call.operands, hcal])
  rw [hfx] at hfr
  generalize hfv : a.eval f = fv at hfr
  cases hfr with
  | fn _ _ _ cvs hcl hcr =>
    refine ⟨cl.args.map a.eval ++ cvs, ?_, by simp [hcl], fun i hi => ?_⟩
    · unfold callable at hcb
      split at hcb
      case h_2 => cases hcb
      rename_i fn hfn
      simp only [Bool.and_eq_true, bne_iff_ne, ne_eq] at hcb
      have hb : fn.body.isNone = false := by cases hb : fn.body <;> simp_all
      unfold execOp
      rw [hop]
      simp only [resolve, hcal, hfv, Deferred.ofValue, Sem.run_bind, Sem.run_pure, Result.andThen_ok, invoke, callFunc, run_program, hfn]
      simp [hcb.1, hb]
    · simp only [List.length_append, List.length_map, Array.length_toList] at hi
      by_cases h : i < cl.args.size
      · have := E cl.args[i] (by simp [needs, Op.operands, Call.operands, hcal])
        simpa [List.getD_eq_getElem?_getD, List.getElem?_append, Array.getElem?_append, h] using this
      · have := hcr (i - cl.args.size) (by omega)
        simpa [List.getD_eq_getElem?_getD, List.getElem?_append, Array.getElem?_append, h] using this

theorem call_frame {P : Program} {z : Start} {s : S} {a : Act} {w : World} {St : Nat → Prop} {g : Gh} (hW : WSim z St g s.h w) (hT : TSim St w g s.N s.t a) (hK : KD z St w g s.b a) {fid : FuncId} {h0 hr h1 : Heap} {args args' : List V} {r : V} {nw lent : List Nat} {c : Bool} (hc : c = true)
    {gs : List (Nat × V)} {bk : List Nat} (hp : callP P c fid gs bk h0 hr lent args args' r h1) (hgs : ∀ p ∈ gs, Rel St w g p.2 (.pointer (some ⟨p.1, 0, none⟩))) {vals : Array Value} (hvl : vals.size = args.length) (hvr : ∀ i, i < args.length → Rel St w g (args.getD i .any) (vals.getD i undef)) {t0 : List (Nat × V)} {v : V} {d : Option Nat} (hd : ∀ k, d = some k → k < s.N)
    (hv : ∀ St w g x, Rel St w g r x → Rel St w g v x) (hvw : ∀ ids, v.within ids = r.within ids) (hvf : v.flat = r.flat)
    (hpre : s.toF.pre ⟨d, v, t0, hr, h0, h1, nw⟩) (hob : outB s.b h1 nw r = true) (hlent : lent.all (fun r => (h0.get r).isNone && (match hr.get r with | some (.rows _ _ _ _) => true | _ => false)) = true)
    (hnw : (hids h1).all (fun k => nw.contains k || bk.contains k) = true) {K : Ending → World → Prop} (hK' : ∀ x w', Sim z (afterE s ⟨d, v, t0, hr, h0, h1, nw⟩) (a.put d x) w' → K (.returned x) w') : Calls P fid vals w K := by
  obtain ⟨hspec, hargs, hfl⟩ := hp
  have hargs := hargs hc
  have hcv := pre_cov hpre
  have hl1 : lent.all (fun r => (h0.get r).isNone) = true := List.all_eq_true.2 fun r hr => by
    have := List.all_eq_true.1 hlent r hr
    rw [Bool.and_eq_true] at this; exact this.1
  have hin := frame_in hW hcv lent hl1
  have hlen := hargs.len
  rw [List.length_map] at hlen
  have hsame := lendV_sub (h := s.h) (hr := hr) lent fun r hr' => by
    have := List.all_eq_true.1 hlent r hr'
    rw [Bool.and_eq_true] at this
    have h2 := this.2
    split at h2
    · rename_i e sz n f hg
      obtain ⟨b', h3, h4⟩ := hpre.hr _ (get_mem2 hg)
      exact ⟨e, sz, n, f, hg, by rw [← h4.rows]; exact h3⟩
    · cases h2
  refine (hspec hc (subStart z St g s.h w h0 lent) vals hin (hvl.trans hlen) (fun i hi => ?_) fun p hp => (hgs p hp).mono (fun k hk => .inl hk) (fun _ _ => rfl)).mono ?_
  · have h2 := hargs.get i
    rw [getD_map _ _ _ _ .any (by omega), ← hsame] at h2
    exact h2 _ _ _ _ (Rel.lend hW (St' := (subStart z St g s.h w h0 lent).St) (fun k hk => .inl hk) lent (fun r hr b v k h1 h2 h3 => .inr ⟨r, b, v, hr, h1, h2, h3⟩) ((hvr i (by omega)).mono (fun k hk => .inl hk) (fun _ _ => rfl)))
  · rintro e w' ⟨x, r', h1', St', g', rfl, ⟨rfl, rfl⟩, hW', hrx, hkeep⟩
    have hok : outOk s lent h0 h1' nw r' := outB_ok hob hfl hpre.h1
    have hok' : outOk s lent h0 h1' nw v := ⟨by rw [hvw]; exact hok.1, hok.2.1, hok.2.2.1, hok.2.2.2.1, hok.2.2.2.2.1, by rw [hvf]; exact hok.2.2.2.2.2⟩
    refine hK' _ _ (frame_out (d := d) hW hT hK hcv lent hd hW' (fun _ => hv _ _ _ _ hrx) (fun k hk hnk => ?_) hok' rfl)
    have h4 := List.all_eq_true.1 hnw k hk
    simp only [Bool.or_eq_true, List.contains_eq_mem, decide_eq_true_eq] at h4
    exact hkeep k (h4.resolve_left hnk)

theorem rel_gl {St : Nat → Prop} {w : World} {g : Gh} {N : Nat} {t : List (Nat × V)} {a : Act} (h : TSim St w g N t a) {gl : List Nat} : ∀ p ∈ gl.map (fun k => (k, tget t (G0 + k))), Rel St w g p.2 (.pointer (some ⟨p.1, 0, none⟩)) := by
  intro p hp
  rw [List.mem_map] at hp
  obtain ⟨k, _, rfl⟩ := hp
  exact h.glob k
theorem effC_ok {P : Program} {ops : Array Oper} {N : Nat} {b : List Nat} {oo : Nat} {t0 : List (Nat × V)} {hr h0 : Heap} {cc : CC} {o : Oper} {e : Eff} {φ : Option Prop} {ψ : Prop} (h : effC P ops N b t0 hr h0 cc o = some (e, φ)) (hφ : andO φ ψ) :
    e.t0 = t0 ∧ e.hr = hr ∧ e.h0 = h0 ∧ e.h1 = cc.h1 ∧ EffOk P ops b N oo o e ∧ ψ := by
  unfold effC at h
  split at h
  case h_2 => cases h
  rename_i cl hop
  split at h
  case h_2 => cases h
  rename_i f hcal
  split at h
  case h_2 => cases h
  rename_i fid caps hfx
  split at h
  case isFalse => cases h
  rename_i hc
  simp only [Bool.and_eq_true] at hc
  obtain ⟨⟨⟨⟨hdN, hcb⟩, hob⟩, hlent⟩, hnw⟩ := hc
  have hdN := dN_of hdN
  split at h
  · rename_i hg
    cases h
    obtain ⟨h1, h2, h3⟩ := cond2_ok hφ (fun h => by cases h) noOpt_obl
    refine ⟨rfl, rfl, rfl, rfl, ?_, h3⟩
    rintro z s a w ⟨St, g, hW, hT, hKp⟩ hN hb _ hpre K Q hK
    subst hN; subst hb
    rw [if_pos (wanted_none hg)]
    obtain ⟨vals, hrun, hvl, hvr⟩ := run_call (P := P) (pre_tsim hT hpre) rfl hop hcal hfx hcb h2
    refine opUp (fun c e => by rw [hop] at e; cases e) ?_
    unfold Oper.wp
    rw [hrun, Oper.upon_enter]
    exact call_frame hW hT hKp rfl h1 (rel_gl (pre_tsim hT hpre)) hvl hvr hdN (fun _ _ _ _ h => h) (fun _ => rfl) rfl hpre hob hlent hnw fun x w' hs => hK _ _ hs
  · rename_i j want hg
    split at h
    case h_2 => cases h
    rename_i c hgc
    split at h
    case h_2 =>
      split at h
      case isFalse => cases h
      rename_i hct
      cases h
      obtain ⟨h1, h2, h3⟩ := cond2_ok hφ (fun h => by cases h) noOpt_obl
      refine ⟨rfl, rfl, rfl, rfl, ?_, h3⟩
      rintro z s a w ⟨St, g, hW, hT, hKp⟩ hN hb _ hpre K Q hK
      subst hN; subst hb
      rw [wanted_guard (pre_tsim hT hpre) hg hgc, if_pos hct]
      obtain ⟨vals, hrun, hvl, hvr⟩ := run_call (P := P) (pre_tsim hT hpre) rfl hop hcal hfx hcb h2
      refine opUp (fun c e => by rw [hop] at e; cases e) ?_
      unfold Oper.wp
      rw [hrun, Oper.upon_enter]
      exact call_frame hW hT hKp rfl h1 (rel_gl (pre_tsim hT hpre)) hvl hvr hdN (fun _ _ _ _ h => h) (fun _ => rfl) rfl hpre hob hlent hnw fun x w' hs => hK _ _ hs
    rename_i d hd e1 enw
    cases h
    obtain ⟨h1, h2, h3⟩ := cond2_ok hφ (fun h => by cases h) noOpt_obl
    refine ⟨rfl, rfl, rfl, by rw [e1], ?_, h3⟩
    rintro z s a w ⟨St, g, hW, hT, hKp⟩ hN hb _ hpre K Q hK
    subst hN; subst hb
    rw [wanted_guard (pre_tsim hT hpre) hg hgc]
    cases c with
    | true =>
      rw [if_pos rfl]
      obtain ⟨vals, hrun, hvl, hvr⟩ := run_call (P := P) (pre_tsim hT hpre) rfl hop hcal hfx hcb h2
      refine opUp (fun c e => by rw [hop] at e; cases e) ?_
      unfold Oper.wp
      rw [hrun, Oper.upon_enter, hd]
      rw [e1, enw] at hob
      rw [e1, enw] at hnw
      exact call_frame (v := .opt true cc.r) hW hT hKp rfl h1 (rel_gl (pre_tsim hT hpre)) hvl hvr (by rw [← hd]; exact hdN) (fun _ _ _ _ h => .opt _ _ _ _ (fun _ => h) (fun h => by cases h)) (fun _ => by simp [V.within]) (by simp [V.flat]) hpre hob hlent hnw fun x w' hs => hK _ _ hs
    | false =>
      rw [if_neg (by simp), hd]
      exact hK _ _ (put_pure hW hT hKp (by rw [← hd]; exact hdN) (.opt _ _ _ _ (fun h => by cases h) (fun _ => rfl)) _ _)

/-- The contract of an operation. -/
def OpSpec (P : Program) (op : Op) (ty : TypeId) (bk : List Nat) (h0 : Heap) (args : List V) (r : V) (h1 : Heap) : Prop :=
  ∀ (o : Oper), o.op = op → o.type = ty → ∀ (z : Start) (ρ : Operand → Value), WSim z z.St z.g h0 z.w → (∀ i, i < args.length → Rel z.St z.w z.g (args.getD i .any) (ρ (op.operands.toList.getD i (.const default)))) →
    ∃ nx x w' St' g', (execOp ρ o).run P z.w = .ok nx w' ∧ (nx = .value x ∨ (nx = .skip ∧ x = undef)) ∧ WSim z St' g' h1 w' ∧ Rel St' w' g' r x ∧ (∀ k, k ∈ bk → g' k = z.g k)

def isCall : Op → Bool
  | .call cl => match cl.callee with
    | .value _ => true
    | _ => false
  | _ => false
def notDefer : Op → Bool
  | .defer _ => false
  | _ => true
def effX (P : Program) (N : Nat) (b : List Nat) (t0 : List (Nat × V)) (h0 : Heap) (cc : CC) (o : Oper) : Option (Eff × Option Prop) :=
  if dstOk o N && o.guard.isNone && notDefer o.op && outB b cc.h1 cc.nw cc.r && (hids cc.h1).all (fun k => cc.nw.contains k || cc.keep.contains k) then
    some (⟨o.dst, cc.r, t0, [], h0, cc.h1, cc.nw⟩, cond2 false (OpSpec P o.op o.type cc.keep h0 cc.args cc.r cc.h1 ∧ VLes (o.op.operands.toList.map (ev t0)) cc.args) (noOpt t0 o.op.operands.toList) (obl true t0 o.op.operands.toList))
  else none

theorem effX_ok {P : Program} {ops : Array Oper} {N : Nat} {b : List Nat} {oo : Nat} {t0 : List (Nat × V)} {h0 : Heap} {cc : CC} {o : Oper} {e : Eff} {φ : Option Prop} {ψ : Prop} (h : effX P N b t0 h0 cc o = some (e, φ)) (hφ : andO φ ψ) :
    e.t0 = t0 ∧ e.hr = [] ∧ e.h0 = h0 ∧ e.h1 = cc.h1 ∧ EffOk P ops b N oo o e ∧ ψ := by
  unfold effX at h
  split at h
  case isFalse => cases h
  rename_i hc
  simp only [Bool.and_eq_true] at hc
  obtain ⟨⟨⟨⟨hdN, hg⟩, hnd⟩, hob⟩, hnw⟩ := hc
  have hdN := dN_of hdN
  have hg : o.guard = none := by simpa using hg
  cases h
  obtain ⟨⟨h1, h1'⟩, h2, h3⟩ := cond2_ok hφ (fun h => by cases h) noOpt_obl
  refine ⟨rfl, rfl, rfl, rfl, ?_, h3⟩
  rintro z s a w ⟨St, g, hW, hT, hKp⟩ hN hb _ hpre K Q hK
  subst hN; subst hb
  rw [if_pos (wanted_none hg)]
  have hcv := pre_cov hpre
  dsimp only at hcv
  have hin := frame_in hW hcv [] rfl
  have hT0 := pre_tsim hT hpre
  have E := rel_ev hT0 rfl h2
  have hlen := h1'.len
  rw [List.length_map] at hlen
  obtain ⟨nx, x, w', St', g', hrun, hnx, hW', hrx, hkeep⟩ := h1 o rfl rfl (subStart z St g s.h w h0 []) a.eval hin fun i hi => by
    have hi' : i < o.op.operands.toList.length := by omega
    have h4 := h1'.get i
    rw [getD_map _ _ _ _ (.const default) hi'] at h4
    refine h4 _ _ _ _ ?_
    refine (E _ ?_).mono (fun k hk => .inl hk) (fun _ _ => rfl)
    rw [List.getD_eq_getElem?_getD, List.getElem?_eq_getElem hi']
    exact List.getElem_mem hi'
  refine opUp (fun c e => by rw [e] at hnd; cases hnd) ?_
  unfold Oper.wp
  have hrun' : (execOp a.eval o).run P w = .ok nx w' := hrun
  have fin : K (a.put o.dst x) w' → Oper.upon P o a K Q (.ok nx w') := fun hs => by
    rcases hnx with rfl | ⟨rfl, rfl⟩
    · exact hs
    · exact hs
  rw [hrun']
  refine fin (hK _ _ (frame_out (d := o.dst) hW hT hKp hcv [] hdN hW' (fun _ => hrx) (fun k hk hnk => ?_) (outB_ok hob (.inl rfl) hpre.h1) rfl))
  have h4 := List.all_eq_true.1 hnw k hk
  simp only [Bool.or_eq_true, List.contains_eq_mem, decide_eq_true_eq] at h4
  exact hkeep k (h4.resolve_left hnk)

/-- The contract of one round. -/
def YSpec (P : Program) (y : Nat) (ids : List Nat) (C : YC) (bk : List Nat) (h0 : Heap) (args : List V) (k : Nat) (h1 : Heap) : Prop :=
  args.length = C.ps.size ∧ ∀ (ro : Option Nat) (z : Start) (vals : Array Value) (l : Nat) (r : Loop), WSim z z.St z.g ((y, .yld (some (ids, C)) 0) :: h0) z.w → z.g y = some (.func (.yield l) #[] #[]) → z.w.heap[l]? = some (.loop r) →
    vals.size = args.length → (∀ i, i < args.length → Rel z.St z.w z.g (args.getD i .any) (vals.getD i undef)) →
    RoundIn (WideR ro) 0 P l r.fn ((r.params.zip vals).foldl (fun tmps (t, a) => tmps.setIfInBounds t a) r.tmps) r.assign r.body z.w
      (fun e w' => ∃ St' g', e = .returned (.bool (k == 0)) ∧ WSim z St' g' ((y, .yld (some (ids, C)) k) :: h1) w' ∧ ∀ i, i ∈ y :: bk → g' i = z.g i)

/-- A call of yield. -/
def effY (P : Program) (ops : Array Oper) (N : Nat) (b : List Nat) (t0 : List (Nat × V)) (h0 : Heap) (cc : CC) (o : Oper) : Option (Eff × Option Prop) :=
  match o.op with
  | .call cl => match cl.callee with
    | .value f => match ev t0 f with
      | .own y => match h0, cc.h1 with
        | (y0, .yld (some (ids, C)) 0) :: h0', (y1, .yld _ k) :: h1' =>
          if dstOk o N && guardOn ops t0 o && Nat.beq y y0 && Nat.beq y y1 && outB b cc.h1 cc.nw cc.r && (hids cc.h1).all (fun k => cc.nw.contains k || Nat.beq k y || cc.keep.contains k) then
            some (⟨o.dst, cc.r, t0, [], h0, cc.h1, cc.nw⟩, cond2 false (cc.h1 = (y, .yld (some (ids, C)) k) :: h1' ∧ cc.r = .bool (k == 0) ∧ YSpec P y ids C cc.keep h0' cc.args k h1' ∧ VLes (cl.args.toList.map (ev t0)) cc.args) (noOpt t0 o.op.operands.toList) (obl true t0 o.op.operands.toList))
          else none
        | _, _ => none
      | _ => none
    | _ => none
  | _ => none

theorem effY_ok {P : Program} {ops : Array Oper} {N : Nat} {b : List Nat} {oo : Nat} {t0 : List (Nat × V)} {h0 : Heap} {cc : CC} {o : Oper} {e : Eff} {φ : Option Prop} {ψ : Prop} (h : effY P ops N b t0 h0 cc o = some (e, φ)) (hφ : andO φ ψ) :
    e.t0 = t0 ∧ e.hr = [] ∧ e.h0 = h0 ∧ e.h1 = cc.h1 ∧ EffOk P ops b N oo o e ∧ ψ := by
  unfold effY at h
  split at h
  case h_2 => cases h
  rename_i cl hop
  split at h
  case h_2 => cases h
  rename_i f hcal
  split at h
  case h_2 => cases h
  rename_i y hfx
  split at h
  case h_2 => cases h
  rename_i y0 ids C h0' y1 o1 k h1' hh1
  split at h
  case isFalse => cases h
  rename_i hc
  simp only [Bool.and_eq_true] at hc
  obtain ⟨⟨⟨⟨⟨hdN, hg⟩, hy0⟩, hy1⟩, hob⟩, hnw⟩ := hc
  have hdN := dN_of hdN
  have hy0 := Nat.eq_of_beq_eq_true hy0
  subst hy0
  cases h
  obtain ⟨⟨hc1, hcr, ⟨hps, hys⟩, hle⟩, h2, h3⟩ := cond2_ok hφ (fun h => by cases h) noOpt_obl
  refine ⟨rfl, rfl, rfl, rfl, ?_, h3⟩
  rintro z s a w ⟨St, g, hW, hT, hKp⟩ hN hb _ hpre K Q hK
  subst hN; subst hb
  rw [if_pos (wanted_on (pre_tsim hT hpre) hg)]
  have hcv := pre_cov hpre
  dsimp only at hcv
  have hin := frame_in hW hcv [] rfl
  have hT0 := pre_tsim hT hpre
  have E := rel_ev hT0 rfl h2
  rw [hop] at E
  have hfr := E f (by simp [Op.operands, Call.operands, hcal])
  rw [hfx] at hfr
  have hgy := hfr.own_inv
  obtain ⟨u, hgu, l, r, hu, hl, hyo⟩ := hin.ok y (.yld (some (ids, C)) 0) (by simp [Heap.get])
  rw [hgy] at hgu
  cases hgu
  have hlen := hle.len
  rw [List.length_map] at hlen
  have hpr : r.params = C.ps := hyo.2.1
  have hsz : (cl.args.map a.eval).size = r.params.size := by rw [hpr, ← hps, ← hlen]; simp
  have hrun : (execOp a.eval o).run P w = .ok (.round l r.fn ((r.params.zip (cl.args.map a.eval)).foldl (fun tmps (t, a) => tmps.setIfInBounds t a) r.tmps) r.assign r.body) w := by
    unfold execOp
    rw [hop]
    simp only [resolve, hcal, hu, Deferred.ofValue, Sem.run_bind, Sem.run_pure, Result.andThen_ok, invoke]
    have hy := run_yield (P := P) (args := cl.args.map a.eval) hl hsz
    simpa using hy
  refine ⟨fun _ _ => trivial, ?_⟩
  rw [show (WideR z.ro).round = z.ro from rfl, Oper.semAt_eq z.ro a.eval o (fun c e => by rw [hop] at e; cases e), hrun, Oper.uponIn_round]
  refine ⟨fun h => (by cases h), ?_⟩
  refine (hys z.ro (subStart z St g s.h w ((y, .yld (some (ids, C)) 0) :: h0') []) (cl.args.map a.eval) l r hin ?_ hl (by simp; omega) fun i hi => ?_).mono ?_
  · show g y = _
    rw [hgy, hu]
  · have hi' : i < cl.args.size := by rw [← hlen] at hi; simpa using hi
    have h4 := hle.get i
    rw [getD_map _ _ _ _ (.const default) (by simpa using hi')] at h4
    refine h4 _ _ _ _ ?_
    have h5 := E cl.args[i] (by simp [Op.operands, Call.operands, hcal])
    have h6 := h5.mono (St' := (subStart z St g s.h w ((y, .yld (some (ids, C)) 0) :: h0') []).St) (fun k hk => .inl hk) (fun _ _ => rfl)
    have e1 : (cl.args.toList.getD i (.const default)) = cl.args[i] := by simp [List.getD_eq_getElem?_getD, hi']
    have e2 : (cl.args.map a.eval).getD i undef = a.eval cl.args[i] := by simp [hi']
    rw [e1, e2]
    exact h6
  · rintro e w' ⟨St', g', rfl, hW', hkeep⟩
    refine hK _ _ (frame_out (d := o.dst) hW hT hKp hcv [] hdN (by rw [hc1]; exact hW') (fun _ => by rw [hcr]; exact .bool _ _) (fun k' hk hnk => ?_) (outB_ok hob (.inl rfl) hpre.h1) rfl)
    have h4 := List.all_eq_true.1 hnw k' hk
    simp only [Bool.or_eq_true, List.contains_eq_mem, decide_eq_true_eq] at h4
    rcases h4 with (h4 | h4) | h4
    · exact absurd h4 hnk
    · exact hkeep k' (by rw [Nat.eq_of_beq_eq_true h4]; exact List.mem_cons_self ..)
    · exact hkeep k' (List.mem_cons_of_mem _ h4)

/-- A value, known otherwise. -/
def effV (P : Program) (W : List Nat) (ops : Array Oper) (N : Nat) (t0 : List (Nat × V)) (hr : Heap) (r : V) (o : Oper) : Option (Eff × Option Prop) :=
  match effP P W ops N t0 hr o with
  | some (e, φ) => some (⟨e.d, r, e.t0, e.hr, e.h0, e.h1, e.nw⟩, some (match φ with | none => e.v = r | some p => p ∧ e.v = r))
  | none => none
theorem effV_ok {P : Program} {W : List Nat} {ops : Array Oper} {N : Nat} {b : List Nat} {oo : Nat} {t0 : List (Nat × V)} {hr : Heap} {r : V} {o : Oper} {e : Eff} {φ : Option Prop} {ψ : Prop} (h : effV P W ops N t0 hr r o = some (e, φ)) (hφ : andO φ ψ) :
    e.t0 = t0 ∧ e.hr = hr ∧ e.h0 = [] ∧ e.h1 = [] ∧ EffOk P ops b N oo o e ∧ ψ := by
  unfold effV at h
  split at h
  case h_2 => cases h
  rename_i e0 φ0 h0
  cases h
  have h1 : e0.v = r ∧ andO φ0 ψ := by
    cases φ0 with
    | none => exact hφ
    | some p => exact ⟨hφ.1.2, hφ.1.1, hφ.2⟩
  obtain ⟨rfl, h2⟩ := h1
  exact effP_ok h0 h2

/-- Does an operation look at own blocks? -/
def readsH : Op → Bool
  | .move _ => false
  | .assign _ => false
  | _ => true
/-! ### Whole regions -/
def effOf (P : Program) (W : List Nat) (ops : Array Oper) (calls : List (Nat × CC)) (s : S) (k : Nat) (o : Oper) : Option (Eff × Option Prop) :=
  let t0 := looksT ops s.t o (match calls.lookup k with | some cc => cc.gl | none => [])
  let ids := opIds t0 (needs o.op)
  match calls.lookup k with
  | some cc => if isCall o.op then (match effC P ops s.N s.b t0 (blks s.h cc.lent) (blks s.h cc.take) cc o with | some r => some r | none => effY P ops s.N s.b t0 (blks s.h cc.take) cc o) else match cc.lent with | [] => effX P s.N s.b t0 (blks s.h cc.take) cc o | _ => effV P W ops s.N t0 (blks s.h ids) cc.r o
  | none => match effP P W ops s.N t0 (blks s.h (if readsH o.op then ids else [])) o with
    | some r => some r
    | none => effH P ops s.N s.b s.o t0 (blks s.h (grow s.h 4 ids)) o

def preB (s : S) (e : Eff) : Bool := (hids e.h1).all fun k => (hids e.h0).contains k || (s.h.get k).isNone
def runE (P : Program) (W : List Nat) (ops : Array Oper) (calls : List (Nat × CC)) : Nat → List Oper → S → Option (S × List Eff × Prop)
  | _, [], s => some (s, [], True)
  | k, o :: l, s => match effOf P W ops calls s k o with
    | some (e, φ) => if preB s e then match runE P W ops calls (k + 1) l (afterE s e) with
      | some (s', es, ψ) => some (s', e :: es, andO φ ψ)
      | none => none
      else none
    | none => none

theorem looksT_ok (ops : Array Oper) (s : S) (o : Oper) (gl : List Nat) : ∀ p ∈ looksT ops s.t o gl, s.toF.T p.1 = p.2 := by
  intro p hp
  unfold looksT at hp
  rw [List.mem_filterMap] at hp
  obtain ⟨d, _, hd⟩ := hp
  split at hd <;> cases hd
  rfl
theorem looksT_known (ops : Array Oper) (t : List (Nat × V)) (o : Oper) (gl : List Nat) : (looksT ops t o gl).all (fun p => !p.2.isAny) = true := by
  rw [List.all_eq_true]
  intro p hp
  unfold looksT at hp
  rw [List.mem_filterMap] at hp
  obtain ⟨d, _, hd⟩ := hp
  split at hd <;> cases hd
  rename_i h
  simpa using h
theorem blks_ok (s : S) (ids : List Nat) : ∀ p ∈ blks s.h ids, ∃ b', s.toF.H p.1 = some b' ∧ BW b' p.2 := by
  intro p hp
  unfold blks at hp
  rw [List.mem_filterMap] at hp
  obtain ⟨r, _, hr⟩ := hp
  split at hr
  · rename_i b hb; cases hr; exact ⟨b, hb, .refl b⟩
  · cases hr

theorem effOf_ok {P : Program} {W : List Nat} {ops : Array Oper} {calls : List (Nat × CC)} {s : S} {k : Nat} {o : Oper} {e : Eff} {φ : Option Prop} {ψ : Prop} (h : effOf P W ops calls s k o = some (e, φ)) (hφ : andO φ ψ) (hb : preB s e = true) :
    EffOk P ops s.b s.N s.o o e ∧ s.toF.pre e ∧ knownT e = true ∧ ψ := by
  have hh1 : ∀ k, k ∈ hids e.h1 → k ∉ hids e.h0 → s.toF.H k = none := by
    intro k hk hk0
    have := List.all_eq_true.1 hb k hk
    simp only [Bool.or_eq_true, List.contains_eq_mem, decide_eq_true_eq, Option.isNone_iff_eq_none] at this
    exact this.resolve_left hk0
  unfold effOf at h
  dsimp only at h
  split at h
  · split at h
    · split at h
      rotate_left
      · obtain ⟨h1, h2, h3, h4, h5, h6⟩ := effY_ok h hφ
        exact ⟨h5, ⟨by rw [h1]; exact looksT_ok ops s o _, by rw [h2]; simp, by rw [h3]; exact blks_ok s _, hh1⟩, by unfold knownT; rw [h1]; exact looksT_known ops s.t o _, h6⟩
      rename_i r0 hr0
      cases h
      obtain ⟨h1, h2, h3, h4, h5, h6⟩ := effC_ok hr0 hφ
      exact ⟨h5, ⟨by rw [h1]; exact looksT_ok ops s o _, by rw [h2]; exact blks_ok s _, by rw [h3]; exact blks_ok s _, hh1⟩, by unfold knownT; rw [h1]; exact looksT_known ops s.t o _, h6⟩
    · split at h
      · obtain ⟨h1, h2, h3, h4, h5, h6⟩ := effX_ok h hφ
        exact ⟨h5, ⟨by rw [h1]; exact looksT_ok ops s o _, by rw [h2]; simp, by rw [h3]; exact blks_ok s _, hh1⟩, by unfold knownT; rw [h1]; exact looksT_known ops s.t o _, h6⟩
      · obtain ⟨h1, h2, h3, h4, h5, h6⟩ := effV_ok h hφ
        exact ⟨h5, ⟨by rw [h1]; exact looksT_ok ops s o _, by rw [h2]; exact blks_ok s _, by rw [h3]; simp, hh1⟩, by unfold knownT; rw [h1]; exact looksT_known ops s.t o _, h6⟩
  · split at h
    · rename_i r hr
      cases h
      obtain ⟨h1, h2, h3, h4, h5, h6⟩ := effP_ok hr hφ
      exact ⟨h5, ⟨by rw [h1]; exact looksT_ok ops s o _, by rw [h2]; exact blks_ok s _, by rw [h3]; simp, hh1⟩, by unfold knownT; rw [h1]; exact looksT_known ops s.t o _, h6⟩
    · obtain ⟨h1, h2, h3, h4, h5⟩ := effH_ok h hφ
      exact ⟨h4, ⟨by rw [h1]; exact looksT_ok ops s o _, by rw [h2]; simp, by rw [h3]; exact blks_ok s _, hh1⟩, by unfold knownT; rw [h1]; exact looksT_known ops s.t o _, h5⟩

theorem runE_ok {P : Program} {W : List Nat} {ops : Array Oper} {calls : List (Nat × CC)} {b : List Nat} {N oo : Nat} : ∀ (l : List Oper) (k : Nat) {s s' : S} {es : List Eff} {φ : Prop}, runE P W ops calls k l s = some (s', es, φ) → φ →
    s.b = b → s.N = N → s.o = oo → es.length = l.length ∧ (∀ (i : Nat) (o : Oper), l[i]? = some o → ∃ e, es[i]? = some e ∧ EffOk P ops b N oo o e) ∧ (∀ e ∈ es, knownT e = true) ∧
      ∀ (E : Nat → Option Eff), (∀ i, i < es.length → E (k + i) = es[i]?) → chain E s'.toF (List.range' k es.length) s.toF
  | [], k, s, s', es, φ, h, _, _, _, _ => by
    simp only [runE] at h; cases h
    exact ⟨rfl, by simp, by simp, fun E _ => rfl⟩
  | o :: l, k, s, s', es, φ, h, hφ, hb, hN, ho => by
    simp only [runE] at h
    split at h
    case h_2 => cases h
    rename_i e φ1 he
    split at h
    case isFalse => cases h
    rename_i hpb
    split at h
    case h_2 => cases h
    rename_i s2 es2 ψ hr
    cases h
    obtain ⟨h1, h2, h3, h4⟩ := effOf_ok he hφ hpb
    obtain ⟨g1, g2, g3, g4⟩ := runE_ok l (k + 1) hr h4 (b := b) (N := N) (oo := oo) hb hN ho
    refine ⟨by simp [g1], fun i o' hi => ?_, fun x hx => ?_, fun E hE => ?_⟩
    · cases i with
      | zero => simp at hi; subst hi; exact ⟨e, by simp, by rw [← hb, ← hN, ← ho]; exact h1⟩
      | succ i => simpa using g2 i o' (by simpa using hi)
    · rcases List.mem_cons.1 hx with rfl | hx
      · exact h3
      · exact g3 x hx
    · simp only [List.length_cons, List.range'_succ]
      refine ⟨e, by have := hE 0 (by simp); simpa using this, h2, ?_⟩
      rw [← toF_after]
      exact g4 E fun i hi => by
        have := hE (i + 1) (by simp; omega)
        simpa [Nat.add_assoc, Nat.add_comm 1 i] using this

def backB (ops : List Oper) : Bool := (List.range ops.length).all fun i => match ops[i]? with
  | some o => o.after.all fun e => !Region.binds .any e || decide (e.on < i)
  | none => true
def befL (ops : List Oper) : Nat → Nat → Oper → Bool
  | 0, _, _ => false
  | n + 1, j, o => o.after.any fun x => Region.binds .any x && (x.on == j || match ops[x.on]? with
    | some o' => befL ops n j o'
    | none => false)
theorem befL_ok {ops : List Oper} : ∀ (n : Nat) {j i : Nat} {o : Oper}, ops[i]? = some o → befL ops n j o = true → Bef ops.toArray j i
  | 0, _, _, _, _, h => by cases h
  | n + 1, j, i, o, hi, h => by
    unfold befL at h
    obtain ⟨x, hx, h2⟩ := Array.any_eq_true'.1 h
    rw [Bool.and_eq_true, Bool.or_eq_true] at h2
    rcases h2.2 with h3 | h3
    · exact .one (by simpa using hi) hx h2.1 (by simpa using h3)
    · split at h3
      · rename_i o' ho'
        exact .step (by simpa using hi) hx h2.1 (befL_ok n ho' h3)
      · cases h3
/-- what comes behind operation j, found in one sweep -/
def befR : List Oper → Nat → List Nat → List Nat
  | [], _, R => R
  | o :: l, k, R => match o.after.any fun x => Region.binds .any x && R.any (· == x.on) with
    | true => befR l (k + 1) (k :: R)
    | false => befR l (k + 1) R
theorem befR_ok {ops : List Oper} {j : Nat} : ∀ (l : List Oper) (k : Nat) (R : List Nat), (∀ n, l[n]? = ops[k + n]?) → (∀ r ∈ R, r = j ∨ Bef ops.toArray j r) → ∀ r ∈ befR l k R, r = j ∨ Bef ops.toArray j r
  | [], _, _, _, hR => hR
  | o :: l, k, R, hl, hR => by
    have ho : ops[k]? = some o := by simpa using (hl 0).symm
    have hl' : ∀ n, l[n]? = ops[k + 1 + n]? := fun n => by have := hl (n + 1); simpa [Nat.add_assoc, Nat.add_comm 1 n] using this
    unfold befR
    split
    · rename_i h
      refine befR_ok l (k + 1) (k :: R) hl' fun r hr => ?_
      rcases List.mem_cons.1 hr with rfl | hr
      · obtain ⟨x, hx, h2⟩ := Array.any_eq_true'.1 h
        rw [Bool.and_eq_true, List.any_eq_true] at h2
        obtain ⟨hb, y, hy, hxy⟩ := h2
        have hxy : y = x.on := by simpa using hxy
        rcases hR y hy with h3 | h3
        · exact .inr (.one (by simpa using ho) hx hb (hxy ▸ h3))
        · exact .inr (.step (by simpa using ho) hx hb (hxy ▸ h3))
      · exact hR r hr
    · exact befR_ok l (k + 1) R hl' hR
theorem befR_lt {ops : List Oper} {i j : Nat} (hj : j < i) (h : (befR (ops.drop (j + 1)) (j + 1) [j]).any (· == i) = true) : Bef ops.toArray j i := by
  obtain ⟨r, hr, h2⟩ := List.any_eq_true.1 h
  have h2 : r = i := by simpa using h2
  subst h2
  rcases befR_ok (ops := ops) _ _ _ (fun n => by simp [List.getElem?_drop]) (fun r hr => .inl (by simpa using hr)) r hr with h3 | h3
  · omega
  · exact h3
def commB (ops : List Oper) (es : List Eff) : Bool := (List.range ops.length).all fun i => match ops[i]?, es[i]? with
  | some o, some e => (List.range i).all fun j => o.after.any (fun x => Region.binds .any x && x.on == j) || (match es[j]? with
    | some e' => off e e' && off e' e
    | none => true) || (befL ops 3 j o || (befR (ops.drop (j + 1)) (j + 1) [j]).any (· == i))
  | _, _ => true

theorem AWp.draw {P : Program} (W : List Nat) {Q : Exit → S → Prop} {id : Nat} (calls : List (Nat × CC)) (ds rs : List Nat) {l : List Oper} {s s' : S} {es : List Eff} {φ : Prop} (hm : P.follows .mixedOrders = true)
    (h : runE P W l.toArray calls 0 l s = some (s', es, φ)) (hφ : φ) (hb : backB l = true) (hc : commB l es = true) (hQ : Q .normal (proj s' ds rs)) : AWp P (.region id l.toArray true) Q s := by
  obtain ⟨h1, h2, h3, h4⟩ := runE_ok l 0 h hφ rfl rfl rfl
  have hQ' : AWp P (.region id l.toArray true) (fun e t => e = .normal ∧ t = s') s := by
    refine AWp.any (E := fun i => es[i]?) hm ⟨fun i o hi => h2 i o (by simpa using hi), fun j e he => h3 e (List.mem_of_getElem? he), fun i o hi e he hbd => ?_, fun j i oi e' e hj hi he' he => ?_⟩ (fin := s') ?_ ⟨rfl, rfl⟩
    · have hi' : l[i]? = some o := by simpa using hi
      have hlt := (List.getElem?_eq_some_iff.1 hi').1
      have := List.all_eq_true.1 hb i (List.mem_range.2 hlt)
      rw [hi'] at this
      have := Array.all_eq_true_iff_forall_mem.1 this e he
      rw [hbd] at this
      simpa using this
    · have hi' : l[i]? = some oi := by simpa using hi
      have hlt := (List.getElem?_eq_some_iff.1 hi').1
      have := List.all_eq_true.1 hc i (List.mem_range.2 hlt)
      rw [hi', he] at this
      have := List.all_eq_true.1 this j (List.mem_range.2 hj)
      rw [he', Bool.or_eq_true, Bool.or_eq_true, Bool.and_eq_true] at this
      rcases this with (h5 | h5) | h5
      · obtain ⟨x, hx, hx2⟩ := Array.any_eq_true'.1 h5
        rw [Bool.and_eq_true, beq_iff_eq] at hx2
        exact .inl (.one hi hx hx2.1 hx2.2)
      · exact .inr ⟨off_spec h5.1, off_spec h5.2⟩
      · rcases Bool.or_eq_true .. |>.mp h5 with h6 | h6
        · exact .inl (befL_ok 3 hi' h6)
        · exact .inl (befR_lt hj h6)
    · have := h4 (fun i => es[i]?) (fun i _ => by simp)
      rw [h1, ← List.range_eq_range'] at this
      simpa using this
  intro z a w hs
  refine wpIn_mono (hQ' z a w hs) fun e a' w' ⟨t, ⟨he, ht⟩, hs'⟩ => ?_
  subst he; subst ht
  exact ⟨_, hQ, Le.proj t ds rs z a' w' hs'⟩

theorem runE_wp {P : Program} {W : List Nat} {ops : Array Oper} {calls : List (Nat × CC)} {Q : Exit → S → Prop} : ∀ (l : List Oper) (k : Nat) {s s' : S} {es : List Eff} {φ : Prop}, runE P W ops calls k l s = some (s', es, φ) → φ → Q .normal s' → AOps P ops Q l s
  | [], k, s, s', es, φ, h, _, hQ => by simp only [runE] at h; cases h; exact .nil hQ
  | o :: l, k, s, s', es, φ, h, hφ, hQ => by
    simp only [runE] at h
    split at h
    case h_2 => cases h
    rename_i e φ1 he
    split at h
    case isFalse => cases h
    rename_i hpb
    split at h
    case h_2 => cases h
    rename_i s2 es2 ψ hr
    cases h
    obtain ⟨h1, h2, h3, h4⟩ := effOf_ok he hφ hpb
    intro z a w hs
    refine wpListIn_step fun K hKK => ?_
    have := h1 z s a w hs rfl rfl rfl h2 K (Post z Q) fun a' w' hs' => hKK _ _ (runE_wp l (k + 1) hr h4 hQ z a' w' hs')
    split
    · rename_i hw; rw [if_pos hw] at this; exact this
    · rename_i hw; rw [if_neg hw] at this; exact ⟨fun _ _ => trivial, this⟩
theorem AWp.text {P : Program} (W : List Nat) {Q : Exit → S → Prop} {id : Nat} (calls : List (Nat × CC)) (ds rs : List Nat) {l : List Oper} {s s' : S} {es : List Eff} {φ : Prop}
    (h : runE P W l.toArray calls 0 l s = some (s', es, φ)) (hφ : φ) (hQ : Q .normal (proj s' ds rs)) : AWp P (.region id l.toArray false) Q s := by
  have hQ' : AWp P (.region id l.toArray false) (fun e t => e = .normal ∧ t = s') s := .region (runE_wp l 0 h hφ ⟨rfl, rfl⟩)
  intro z a w hs
  refine wpIn_mono (hQ' z a w hs) fun e a' w' ⟨t, ⟨he, ht⟩, hs'⟩ => ?_
  subst he; subst ht
  exact ⟨_, hQ, Le.proj t ds rs z a' w' hs'⟩

/-- A region with what is kept behind it. -/
def regC (P : Program) (W : List Nat) (draw : Bool) (calls : List (Nat × CC)) (ds rs : List Nat) (l : List Oper) (s : S) : Option (S × Prop) :=
  match runE P W l.toArray calls 0 l s with
  | some (s', es, φ) => if !draw || (backB l && commB l es) then some (proj s' ds rs, φ) else none
  | none => none
theorem AWp.regC {P : Program} (W : List Nat) {Q : Exit → S → Prop} {id : Nat} {draw : Bool} (calls : List (Nat × CC)) (ds rs : List Nat) {l : List Oper} {s : S} (s' : S) (φ : Prop) (hm : P.follows .mixedOrders = true)
    (h : regC P W draw calls ds rs l s = some (s', φ)) (hφ : φ) (hQ : Q .normal s') : AWp P (.region id l.toArray draw) Q s := by
  unfold Abs.regC at h
  split at h
  case h_2 => cases h
  rename_i s1 es φ1 hr
  split at h
  case isFalse => cases h
  rename_i hc
  cases h
  cases draw with
  | true =>
    simp only [Bool.not_true, Bool.false_or, Bool.and_eq_true] at hc
    exact .draw W calls ds rs hm hr hφ hc.1 hc.2 hQ
  | false => exact .text W calls ds rs hr hφ hQ

/-- A state's heap as a contract wants it. -/
theorem Spec.heap {P : Program} {f : FuncId} {gs : List (Nat × V)} {bk : List Nat} {h0 h0' : Heap} {args : List V} {R : V → Heap → Prop} (h : Spec P f gs bk h0' args R) (hc : hcov h0 h0') : Spec P f gs bk h0 args R :=
  fun z vals h1 h2 h3 => h z vals (h1.less fun r b' hb' => by obtain ⟨b, h4, h5⟩ := hcov_get hc r b' hb'; exact ⟨b, h4, fun v hv => h5 _ _ _ _ hv⟩) h2 h3

end Go.Abs
namespace Go.Abs
open Go

theorem VLe.int {k : IntKind} {a b : Int} (h : a = b) : VLe (.int k a) (.int k b) := .of_eq (by rw [h])
theorem VLe.str {a b : List UInt8} (h : a = b) : VLe (.str a) (.str b) := .of_eq (by rw [h])
theorem VLe.bool {a b : Bool} (h : a = b) : VLe (.bool a) (.bool b) := .of_eq (by rw [h])
theorem VLe.b16 {a b : BitVec 16} (h : a = b) : VLe (.b16 a) (.b16 b) := .of_eq (by rw [h])
theorem BLe.cellsL {t : TypeId} {cs cs' : List V} (h : VLes cs cs') : BLe (.cells t cs) (.cells t cs') := .cells h.len fun i _ => h.get i
theorem VLe.opt {c : Bool} {v v' : V} (h : VLe v v') : VLe (.opt c v) (.opt c v') := by
  rintro St w g x hx
  cases hx with
  | opt _ _ _ _ h1 h0 => exact .opt _ _ _ _ (fun hc => h _ _ _ _ (h1 hc)) h0
section
variable {α : Type} {sz : Nat} {enc : α → List V} {d : α} {e : TypeId}
theorem VLe.L {l l' : List α} (h : l = l') : VLe (vL sz enc d l) (vL sz enc d l') := .of_eq (by rw [h])
theorem VLe.nilL : VLe .nils (vL sz enc d []) := .nils
theorem VLe.dropL {l : List α} {k : Nat} : VLe (.arr sz (l.length - k) (fun i j => encF enc d l (i + k) j)) (vL sz enc d (l.drop k)) :=
  .arr_eq (by simp) fun i j _ _ => by simp [encF, List.getD_eq_getElem?_getD, List.getElem?_drop, Nat.add_comm]
theorem VLe.takeL {l : List α} {k : Nat} (h : k ≤ l.length) : VLe (.arr sz k (encF enc d l)) (vL sz enc d (l.take k)) :=
  .arr_eq (by simp; omega) fun i j hi _ => by simp [encF, List.getD_eq_getElem?_getD, hi]
theorem BLe.L {l l' : List α} (h : l = l') : BLe (bL e sz enc d l) (bL e sz enc d l') := by rw [h]; exact .refl _
theorem flat_get {xs : List α} (hl : ∀ x, (enc x).length = sz) : ∀ i j, i < xs.length → j < sz → (xs.flatMap enc).getD (i * sz + j) .any = (enc (xs.getD i d)).getD j .any := by
  induction xs with
  | nil => intro i j hi; simp at hi
  | cons x xs ih =>
    intro i j hi hj
    rw [List.flatMap_cons]
    cases i with
    | zero => simp only [Nat.zero_mul, Nat.zero_add, List.getD_cons_zero]; rw [List.getD_eq_getElem?_getD, List.getElem?_append_left (by rw [hl]; exact hj), ← List.getD_eq_getElem?_getD]
    | succ i =>
      have : (i + 1) * sz + j = sz + (i * sz + j) := by rw [Nat.succ_mul]; omega
      rw [this, List.getD_eq_getElem?_getD, List.getElem?_append_right (by rw [hl]; omega), hl, Nat.add_sub_cancel_left, ← List.getD_eq_getElem?_getD, ih i j (by simpa using hi) hj, List.getD_cons_succ]
theorem BLe.lst (xs : List α) {n : Nat} {cs : List V} (hn : n = xs.length) (h : cs = xs.flatMap enc) (hl : ∀ x, (enc x).length = sz) : BLe (.rows e sz n (lstF sz cs)) (bL e sz enc d xs) := by
  subst h
  refine .rows_eq hn fun i j hi hj => ?_
  unfold lstF encF
  exact flat_get hl i j (by omega) hj
theorem BLe.rep (x : α) {n : Nat} {cs : List V} (h : cs = enc x) : BLe (.rows e sz n (repF cs)) (bL e sz enc d (List.replicate n x)) := by
  subst h
  refine .rows_eq (by simp) fun i j hi _ => ?_
  unfold repF encF
  simp [List.getD_eq_getElem?_getD, hi]
end

section
variable {P : Program} {Q : Exit → S → Prop} {s : S}
theorem AWp.condAb {c : Operand} {x y : Code} (p : Bool → Prop) (hc : raw s.t c = .abool p) (h1 : p true → AWp P x Q s) (h2 : p false → AWp P y Q s) : AWp P (.cond c x y) Q s := fun z a w hs => by
  obtain ⟨St, gh, hW, hT, hKp⟩ := hs
  have := rel_raw hT c
  rw [hc] at this
  generalize hv : a.eval c = v at this
  cases this with
  | abool _ _ b h =>
    exact wpIn_cond_split hv (fun hb => h1 (hb ▸ h) z a w ⟨St, gh, hW, hT, hKp⟩) (fun hb => h2 (hb ▸ h) z a w ⟨St, gh, hW, hT, hKp⟩)
theorem AWp.loopL {c : Code} {α : Type} (inv : α → S) (pre : α → Prop) (μ : α → Nat) (x : α) (hs : Le s (inv x)) (hx : pre x)
    (round : ∀ x, pre x → AWp P c (thenQ (fun s' => ∃ y, Le s' (inv y) ∧ pre y ∧ μ y < μ x) Q) (inv x)) : AWp P (.loop c) Q s := by
  refine .le hs ?_
  intro z a w hs
  refine wpIn_loop_ghost (fun n a w => ∃ x, pre x ∧ μ x = n ∧ Sim z (inv x) a w) (μ x) ⟨x, hx, rfl, hs⟩ ?_
  rintro n a w ⟨x, hx, rfl, hs⟩
  refine wpIn_mono (round x hx z a w hs) fun e a' w' ⟨s', hq, hs'⟩ => ?_
  cases e with
  | normal =>
    obtain ⟨y, hle, hy, hlt⟩ := hq
    exact ⟨μ y, hlt, y, hy, rfl, hle z a' w' hs'⟩
  | _ => exact ⟨s', hq, hs'⟩
/-- Two ways come together. -/
def joinQ {α : Type} (inv : α → S) (pre : α → Prop) (Q : Exit → S → Prop) : Exit → S → Prop
  | .normal, s => ∃ y, Le s (inv y) ∧ pre y
  | e, s => Q e s
theorem AWp.join {x y : Code} {α : Type} (inv : α → S) (pre : α → Prop) (h : AWp P x (joinQ inv pre Q) s) (h2 : ∀ v, pre v → AWp P y Q (inv v)) : AWp P (.seq x y) Q s := fun z a w hs =>
  wpIn_seq (wpIn_mono (h z a w hs) fun e a' w' ⟨s', hq, hs'⟩ => by
    cases e with
    | normal =>
      obtain ⟨v, hle, hp⟩ := hq
      exact h2 v hp z a' w' (hle z a' w' hs')
    | _ => exact ⟨s', hq, hs'⟩)
theorem joinQ_normal {α : Type} {inv : α → S} {pre : α → Prop} {Q : Exit → S → Prop} (y : α) (h : Le s (inv y)) (hp : pre y) : joinQ inv pre Q .normal s := ⟨y, h, hp⟩
theorem joinQ_ret {α : Type} {inv : α → S} {pre : α → Prop} {Q : Exit → S → Prop} (h : Q .ret s) : joinQ inv pre Q .ret s := h
theorem loopQ_normal {α : Type} {inv : α → S} {pre : α → Prop} {m : Nat} {μ : α → Nat} {Q : Exit → S → Prop} (y : α) (h : Le s (inv y)) (hp : pre y) (hm : μ y < m) : thenQ (fun s' => ∃ y, Le s' (inv y) ∧ pre y ∧ μ y < m) Q .normal s := ⟨y, h, hp, hm⟩
end

/-- The contract in its plain form. -/
def Spec1 (P : Program) (f : FuncId) (gs : List (Nat × V)) (bk : List Nat) (h0 : Heap) (args : List V) (r : V) (h1 : Heap) : Prop := Spec P f gs bk h0 args (fun v h => v = r ∧ h = h1)
theorem Spec1.body {P : Program} {f : FuncId} {fn : Func} {c : Code} {N : Nat} {h0 : Heap} {args : List V} {r : V} {h1 : Heap} (o : Nat) (gs : List (Nat × V)) (bk : List Nat) (hf : P.funcs[f]? = some fn) (hb : fn.body = some c) (hN : fn.ntmps = N) (hle : Nat.ble args.length N = true) (hG : Nat.ble N 1000000 = true)
    (h : AWp P c (bodyQ P fn bk (fun v h => v = r ∧ h = h1)) ⟨N, initT 0 args ++ globT gs, h0, bk, o⟩) : Spec1 P f gs bk h0 args r h1 := Spec.body o gs bk hf hb hN (Nat.le_of_ble_eq_true hle) (Nat.le_of_ble_eq_true hG) h
end Go.Abs
namespace Go.Abs
open Go Go.MapKept

section
variable {P : Program} {St : Nat → Prop} {w : World}
end

end Go.Abs
namespace Go.Abs
open Go Go.MapKept

section
variable {P : Program} {St : Nat → Prop} {w : World}

/-! ### An own map that turns no more -/
end

end Go.Abs
namespace Go.Abs
open Go

/-! ### Pure programs -/
/-- What must hold, or there is no answer. -/
def chk (p : Prop) [Decidable p] {α : Type} (k : Option α) : Option α := if p then k else none
theorem chk_some {p : Prop} [Decidable p] {α : Type} {k : Option α} {r : α} (h : chk p k = some r) : p ∧ k = some r := by
  unfold chk at h; split at h
  · rename_i hp; exact ⟨hp, h⟩
  · cases h
theorem bind_ok {α β : Type} {x : Option α} {f : α → Option β} {r : β} (h : x.bind f = some r) : ∃ y, x = some y ∧ f y = some r := by
  cases x with
  | none => cases h
  | some y => exact ⟨y, rfl, h⟩
/-- A guarded call. -/
def optc {α β : Type} [Inhabited α] (c : Bool) (x : Option α) (k : α → Option β) : Option β := if c then x.bind k else k default
theorem optc_some {α β : Type} [Inhabited α] {c : Bool} {x : Option α} {k : α → Option β} {r : β} (h : optc c x k = some r) : ∃ y, (c = true → x = some y) ∧ k y = some r := by
  unfold optc at h; split at h
  · obtain ⟨y, h1, h2⟩ := bind_ok h; exact ⟨y, fun _ => h1, h2⟩
  · rename_i hc; exact ⟨default, fun h' => absurd h' hc, h⟩
theorem ite_t {c : Prop} [Decidable c] {α : Type} {x y : Option α} {r : α} (hc : c) (h : (if c then x else y) = some r) : x = some r := by rwa [if_pos hc] at h
theorem ite_f {c : Prop} [Decidable c] {α : Type} {x y : Option α} {r : α} (hc : ¬ c) (h : (if c then x else y) = some r) : y = some r := by rwa [if_neg hc] at h
theorem ite_tb {c : Bool} {α : Type} {x y : Option α} {r : α} (hc : c = true) (h : (if c then x else y) = some r) : x = some r := ite_t hc h
theorem ite_fb {c : Bool} {α : Type} {x y : Option α} {r : α} (hc : c = false) (h : (if c then x else y) = some r) : y = some r := ite_f (by simp [hc]) h
/-- A place where ways meet. -/
def jn {α β : Type} (K : α → Option β) (x : (α → Option β) → Option β) : Option β := x K
theorem jn_some {α β : Type} {K : α → Option β} {x : (α → Option β) → Option β} {r : β} (h : jn K x = some r) : ∃ K', K' = K ∧ x K' = some r := ⟨K, rfl, h⟩
/-- Both ways, where it is not known which is taken. -/
def both {α : Type} [DecidableEq α] (x y : Option α) : Option α := if x = y then x else none
theorem both_some {α : Type} [DecidableEq α] {x y : Option α} {r : α} (h : both x y = some r) : x = some r ∧ y = some r := by
  unfold both at h; split at h
  · rename_i e; exact ⟨h, e ▸ h⟩
  · cases h
/-- The first way may be taken where 'q' holds, the second one always. -/
def abc {α : Type} [DecidableEq α] (q : Prop) [Decidable q] (x y : Option α) : Option α := if q then both x y else y
theorem abc_some {α : Type} [DecidableEq α] {q : Prop} [Decidable q] {x y : Option α} {r : α} (h : abc q x y = some r) : (q → x = some r) ∧ y = some r := by
  unfold abc at h; split at h
  · exact ⟨fun _ => (both_some h).1, (both_some h).2⟩
  · rename_i hq; exact ⟨fun h' => absurd h' hq, h⟩
def FUEL : Nat := 4611686018427387904

/-! ### Rows as lists -/
/-- The rows hold the list. -/
def RL {α : Type} (sz : Nat) (enc : α → List V) (d : α) (n : Nat) (f : Nat → Nat → V) (l : List α) : Prop := n = l.length ∧ ∀ i j, i < n → j < sz → f i j = encF enc d l i j
section
variable {α : Type} {sz : Nat} {enc : α → List V} {d : α} {e : TypeId}
theorem RL.self (l : List α) : RL sz enc d l.length (encF enc d l) l := ⟨rfl, fun _ _ _ _ => rfl⟩
theorem RL.lst (xs : List α) {n : Nat} {cs : List V} (hn : n = xs.length) (h : cs = xs.flatMap enc) (hl : ∀ x, (enc x).length = sz) : RL sz enc d n (lstF sz cs) xs := by
  subst h
  exact ⟨hn, fun i j hi hj => by unfold lstF encF; exact flat_get hl i j (by omega) hj⟩
theorem RL.rep (x : α) {n : Nat} {cs : List V} (h : cs = enc x) : RL sz enc d n (repF cs) (List.replicate n x) := by
  subst h
  exact ⟨by simp, fun i j hi _ => by unfold repF encF; simp [List.getD_eq_getElem?_getD, hi]⟩
theorem RL.app {n m : Nat} {f f2 : Nat → Nat → V} {l l2 : List α} (h : RL sz enc d n f l) (h2 : RL sz enc d m f2 l2) : RL sz enc d (n + m) (appF n f f2) (l ++ l2) := by
  obtain ⟨rfl, h⟩ := h
  obtain ⟨rfl, h2⟩ := h2
  refine ⟨by simp, fun i j hi hj => ?_⟩
  unfold appF
  split
  · rename_i hlt; rw [h i j hlt hj]; simp [encF, List.getD_eq_getElem?_getD, List.getElem?_append, hlt]
  · rename_i hlt; rw [h2 (i - l.length) j (by omega) hj]; simp [encF, List.getD_eq_getElem?_getD, List.getElem?_append, hlt]
theorem RL.app0 {m : Nat} {f2 : Nat → Nat → V} {l2 : List α} (h2 : RL sz enc d m f2 l2) : RL sz enc d (0 + m) f2 l2 := by rwa [Nat.zero_add]
theorem RL.set {n i off : Nat} {f : Nat → Nat → V} {l : List α} {cs : List V} (x : α) (h : RL sz enc d n f l) (hx : ∀ j, j < sz → (if off ≤ j ∧ j < off + cs.length then cs.getD (j - off) .any else (enc (l.getD i d)).getD j .any) = (enc x).getD j .any) :
    RL sz enc d n (updF f i off cs) (l.set i x) := by
  obtain ⟨rfl, h⟩ := h
  refine ⟨by simp, fun a j ha hj => ?_⟩
  have hh := h a j ha hj
  unfold updF
  by_cases e : a = i
  · subst e
    have h3 := hx j hj
    have e2 : encF enc d (l.set a x) a j = (enc x).getD j .any := by simp [encF, List.getD_eq_getElem?_getD, ha]
    rw [e2, ← h3]
    split
    · rename_i h1; rw [if_pos ⟨h1.2.1, h1.2.2⟩]
    · rename_i h1; rw [if_neg (fun h4 => h1 ⟨rfl, h4.1, h4.2⟩), hh]; rfl
  · rw [if_neg (fun h4 => e h4.1), hh]
    simp [encF, List.getD_eq_getElem?_getD, Ne.symm e]
theorem RL.clr {n i m : Nat} {f : Nat → Nat → V} {l : List α} {zs : List V} (z : α) (h : RL sz enc d n f l) (hm : i + m = n) (hz : zs = enc z) : RL sz enc d n (clrF f i m zs) (l.take i ++ List.replicate m z) := by
  obtain ⟨rfl, h⟩ := h
  subst hz
  refine ⟨by simp; omega, fun a j ha hj => ?_⟩
  unfold clrF
  have hl : (l.take i).length = i := by simp; omega
  by_cases e : i ≤ a
  · rw [if_pos ⟨e, by omega⟩]
    simp [encF, List.getD_eq_getElem?_getD, List.getElem?_append, hl, show ¬ a < i by omega, show a - i < m by omega]
  · rw [if_neg (fun h4 => e h4.1), h a j ha hj]
    simp [encF, List.getD_eq_getElem?_getD, List.getElem?_append, hl, show a < i by omega, ha]
theorem RL.take {n k : Nat} {f : Nat → Nat → V} {l : List α} (h : RL sz enc d n f l) (hk : k ≤ n) : RL sz enc d k f (l.take k) := by
  obtain ⟨rfl, h⟩ := h
  refine ⟨by simp; omega, fun a j ha hj => ?_⟩
  rw [h a j (by omega) hj]
  simp [encF, List.getD_eq_getElem?_getD, ha]
theorem RL.dropL {l : List α} {k : Nat} : RL sz enc d (l.length - k) (fun i j => encF enc d l (i + k) j) (l.drop k) :=
  ⟨by simp, fun i j _ _ => by simp [encF, List.getD_eq_getElem?_getD, List.getElem?_drop, Nat.add_comm]⟩
theorem RL.takeL {l : List α} {k : Nat} (h : k ≤ l.length) : RL sz enc d k (encF enc d l) (l.take k) :=
  ⟨by simp; omega, fun i j hi _ => by simp [encF, List.getD_eq_getElem?_getD, hi]⟩
theorem BLe.of {n : Nat} {f : Nat → Nat → V} {l : List α} (h : RL sz enc d n f l) : BLe (.rows e sz n f) (bL e sz enc d l) := .rows_eq h.1 h.2
theorem VLe.of {n : Nat} {f : Nat → Nat → V} {l : List α} (h : RL sz enc d n f l) : VLe (.arr sz n f) (vL sz enc d l) := .arr_eq h.1 h.2
end

/-! ### Other numbers -/
mutual
def V.ren (π : Nat → Nat) : V → V
  | .own r => .own (π r)
  | .ptr r o => .ptr (π r) o
  | .oelem r sz i o => .oelem (π r) sz i o
  | .osl r sz i o => .osl (π r) sz i o
  | .agg cs => .agg (V.renAll π cs)
  | .tup cs => .tup (V.renAll π cs)
  | .fn f cs => .fn f (V.renAll π cs)
  | .opt c v => .opt c (V.ren π v)
  | .any => .any
  | .bool b => .bool b
  | .int k n => .int k n
  | .b16 x => .b16 x
  | .str l => .str l
  | .nils => .nils
  | .arr sz n f => .arr sz n f
  | .elem sz n f i off => .elem sz n f i off
  | .lit v => .lit v
  | .abool p => .abool p
  | .mp n kf vf => .mp n kf vf
def V.renAll (π : Nat → Nat) : List V → List V
  | [] => []
  | v :: l => V.ren π v :: V.renAll π l
end
theorem renAll_length (π : Nat → Nat) : ∀ l : List V, (V.renAll π l).length = l.length
  | [] => rfl
  | _ :: l => by simp [V.renAll, renAll_length π l]
theorem renAll_get (π : Nat → Nat) : ∀ (l : List V) (i : Nat), (V.renAll π l).getD i .any = V.ren π (l.getD i .any)
  | [], i => by simp [V.renAll, V.ren]
  | v :: l, 0 => by simp [V.renAll]
  | v :: l, i + 1 => by simpa [V.renAll] using renAll_get π l i
mutual
theorem V.ren_ren {π : Nat → Nat} (hπ : ∀ k, π (π k) = k) : ∀ v : V, (v.ren π).ren π = v
  | .own r => by simp [V.ren, hπ]
  | .ptr r o => by simp [V.ren, hπ]
  | .oelem r sz i o => by simp [V.ren, hπ]
  | .osl r sz i o => by simp [V.ren, hπ]
  | .agg cs => by simp [V.ren, V.renAll_renAll hπ cs]
  | .tup cs => by simp [V.ren, V.renAll_renAll hπ cs]
  | .fn f cs => by simp [V.ren, V.renAll_renAll hπ cs]
  | .opt c v => by simp [V.ren, V.ren_ren hπ v]
  | .any | .bool _ | .int _ _ | .b16 _ | .str _ | .nils | .arr _ _ _ | .elem _ _ _ _ _ | .lit _ | .abool _ | .mp _ _ _ => by simp [V.ren]
theorem V.renAll_renAll {π : Nat → Nat} (hπ : ∀ k, π (π k) = k) : ∀ l : List V, V.renAll π (V.renAll π l) = l
  | [] => rfl
  | v :: l => by simp [V.renAll, V.ren_ren hπ v, V.renAll_renAll hπ l]
end

theorem Rel.ren {St : Nat → Prop} {w : World} {π : Nat → Nat} : ∀ {g : Gh} {v : V} {x : Value}, Rel St w g v x → ∀ {g' : Gh}, (∀ k, g' (π k) = g k) → Rel St w g' (v.ren π) x := by
  intro g v x h
  induction h with
  | any g x => intro _ _; exact .any _ x
  | bool g b => intro _ _; exact .bool _ b
  | int g k n => intro _ _; exact .int _ k n
  | b16 g x => intro _ _; exact .b16 _ x
  | str g l s h => intro _ _; exact .str _ l s h
  | agg g cs vs hl h ih => intro g' hg; exact .agg _ _ vs (by rw [renAll_length]; exact hl) fun i hi => by rw [renAll_get]; exact ih i (by rwa [renAll_length] at hi) hg
  | tup g cs vs hl h ih => intro g' hg; exact .tup _ _ vs (by rw [renAll_length]; exact hl) fun i hi => by rw [renAll_get]; exact ih i (by rwa [renAll_length] at hi) hg
  | nils g => intro _ _; exact .nils _
  | arr0 g sz f => intro _ _; exact .arr0 _ sz f
  | arr g sz n f b o cap x hcap hmax hs hc h1 hr ih => intro _ _; exact .arr _ sz n f b o cap x hcap hmax hs hc h1 hr
  | elem g sz n f i off b o x hi hs hc h1 hr ih => intro _ _; exact .elem _ sz n f i off b o x hi hs hc h1 hr
  | own g k v h h1 => intro g' hg; exact .own _ _ v (by rw [hg k]; exact h) h1
  | ptr g k off b h => intro g' hg; exact .ptr _ _ off b (by rw [hg k]; exact h)
  | oelem g k sz i off b n cap h => intro g' hg; exact .oelem _ _ sz i off b n cap (by rw [hg k]; exact h)
  | osl g k sz i off b n cap h => intro g' hg; exact .osl _ _ sz i off b n cap (by rw [hg k]; exact h)
  | fn g f cs vs hl h ih => intro g' hg; exact .fn _ f _ vs (by rw [renAll_length]; exact hl) fun i hi => by rw [renAll_get]; exact ih i (by rwa [renAll_length] at hi) hg
  | lit g x => intro _ _; exact .lit _ x
  | opt g c v x h h0 ih => intro g' hg; exact .opt _ c _ x (fun hc => ih hc hg) h0
  | abool g p b h => intro _ _; exact .abool _ p b h
  | mp g n kf vf b es hs ho hn hb hk hv => intro _ _; exact .mp _ n kf vf b es hs ho hn hb hk hv

def Blk.ren (π : Nat → Nat) : Blk → Blk
  | .cells t cs => .cells t (V.renAll π cs)
  | .rows e sz n f => .rows e sz n f
  | .iter n kf vf seen => .iter n kf vf seen
  | .siter l pos => .siter l pos
  | .mapB n kf vf => .mapB n kf vf
  | .yld o k => .yld (yoCut (!((yoIds o).all fun i => Nat.beq (π i) i)) o) k
def Blk.renOk (π : Nat → Nat) : Blk → Bool
  | .yld o _ => (yoIds o).all fun i => Nat.beq (π i) i
  | _ => true
theorem Blk.ren_ren {π : Nat → Nat} (hπ : ∀ k, π (π k) = k) (b : Blk) (hb : b.renOk π = true) : (b.ren π).ren π = b := by
  cases b with
  | yld o k => 
    have e : Blk.ren π (.yld o k) = .yld o k := by
      have hb' : ((yoIds o).all fun i => Nat.beq (π i) i) = true := hb
      simp only [Blk.ren, hb', yoCut, Bool.not_true, Bool.false_eq_true, if_false]
    rw [e, e]
  | _ => simp [Blk.ren, V.renAll_renAll hπ]
def hren (π : Nat → Nat) (h : Heap) : Heap := h.map fun p => (π p.1, p.2.ren π)
def tren (π : Nat → Nat) (t : List (Nat × V)) : List (Nat × V) := t.map fun p => (p.1, p.2.ren π)
theorem inj_of {π : Nat → Nat} (hπ : ∀ k, π (π k) = k) {a b : Nat} (h : π a = π b) : a = b := by rw [← hπ a, h, hπ]
theorem get_hren {π : Nat → Nat} (hπ : ∀ k, π (π k) = k) (k : Nat) : ∀ h : Heap, Heap.get (hren π h) k = (Heap.get h (π k)).map (Blk.ren π)
  | [] => rfl
  | (a, b) :: h => by
    have ih := get_hren hπ k h
    unfold hren at ih ⊢
    simp only [List.map_cons, Heap.get]
    by_cases hk : π a = k
    · rw [if_pos hk, if_pos (by rw [← hk, hπ])]; rfl
    · rw [if_neg hk, if_neg (fun e => hk (by rw [e, hπ])), ih]
theorem tget_ren (π : Nat → Nat) (k : Nat) : ∀ t : List (Nat × V), tget (tren π t) k = (tget t k).ren π
  | [] => rfl
  | (a, v) :: t => by
    have ih := tget_ren π k t
    unfold tren at ih ⊢
    simp only [List.map_cons, tget]
    split
    · rfl
    · exact ih
theorem hren_hren {π : Nat → Nat} (hπ : ∀ k, π (π k) = k) (h : Heap) (hok : h.all (fun p => p.2.renOk π) = true) : hren π (hren π h) = h := by
  unfold hren
  rw [List.map_map]
  conv => rhs; rw [← List.map_id h]
  refine List.map_congr_left fun p hp => ?_
  simp [hπ, Blk.ren_ren hπ p.2 (List.all_eq_true.1 hok p hp)]

theorem BlkOk.ren {St : Nat → Prop} {w : World} {π : Nat → Nat} {g g' : Gh} {v : Value} {b : Blk} (h : BlkOk St w g v b) (hg : ∀ k, g' (π k) = g k) : BlkOk St w g' v (b.ren π) := by
  cases b with
  | cells t cs =>
    obtain ⟨b, vals, rfl, hh, hl, hr, h1⟩ := h
    refine ⟨b, vals, rfl, hh, by rw [renAll_length]; exact hl, fun i hi => ?_, fun i hi => h1 i (by rwa [renAll_length] at hi)⟩
    rw [renAll_get]
    exact (hr i (by rwa [renAll_length] at hi)).ren hg
  | rows e sz n f => exact h
  | iter => exact h
  | siter => exact h
  | mapB => exact h
  | yld o k =>
    obtain ⟨l, r, h1, h2, h3⟩ := h
    refine ⟨l, r, h1, h2, ?_⟩
    unfold yoCut
    split
    · trivial
    · rename_i hc
      refine h3.mono (fun _ h => h) (fun _ _ => rfl) fun i hi => ?_
      have hall : ((yoIds o).all fun i => Nat.beq (π i) i) = true := by simpa using hc
      have := Nat.eq_of_beq_eq_true (List.all_eq_true.1 hall i hi)
      rw [← hg i, this]

theorem WSim.ren {z : Start} {St : Nat → Prop} {π : Nat → Nat} (hπ : ∀ k, π (π k) = k) {g : Gh} {h : Heap} {w : World} (hs : WSim z St g h w) : WSim z St (fun k => g (π k)) (hren π h) w := by
  have hg : ∀ k, (fun k => g (π k)) (π k) = g k := fun k => by simp [hπ]
  refine ⟨hs.frm, hs.st0, hs.st1, ?_, ?_, ?_⟩
  · intro r b v hb hv k hk
    rw [get_hren hπ, Option.map_eq_some_iff] at hb
    obtain ⟨b0, hb0, rfl⟩ := hb
    exact hs.ow (π r) b0 v hb0 hv k hk
  · intro r b hb
    rw [get_hren hπ, Option.map_eq_some_iff] at hb
    obtain ⟨b0, hb0, rfl⟩ := hb
    obtain ⟨v, hv, hok⟩ := hs.ok (π r) b0 hb0
    exact ⟨v, hv, hok.ren hg⟩
  · intro r r' b b' v v' hb hb' hv hv' hne k hk
    rw [get_hren hπ, Option.map_eq_some_iff] at hb hb'
    obtain ⟨b0, hb0, rfl⟩ := hb
    obtain ⟨b1, hb1, rfl⟩ := hb'
    exact hs.sep (π r) (π r') b0 b1 v v' hb0 hb1 hv hv' (fun e => hne (inj_of hπ e)) k hk

theorem Le.ren {s : S} (π : Nat → Nat) (hπ : ∀ k, π (π k) = k) (hb : s.b.all (fun k => Nat.beq (π k) k) = true) : Le s ⟨s.N, tren π s.t, hren π s.h, s.b, s.o⟩ := by
  rintro z a w ⟨St, g, hW, hT, hK⟩
  refine ⟨St, fun k => g (π k), hW.ren hπ, ⟨hT.1, hT.2.1, fun d => ?_⟩, hK.to (fun _ h => h) (fun _ _ => rfl) rfl (fun r hr => ?_)⟩
  · rw [tget_ren]; exact (hT.2.2 d).ren (fun k => by simp [hπ])
  · have := Nat.eq_of_beq_eq_true (List.all_eq_true.1 hb r hr)
    show g (π r) = _
    rw [this]

theorem Spec1.ren {P : Program} {f : FuncId} {gs : List (Nat × V)} {bk : List Nat} {h0 : Heap} {args : List V} {r : V} {h1 : Heap} (π : Nat → Nat) (hπ : ∀ k, π (π k) = k) (hok : h0.all (fun p => p.2.renOk π) = true) (h : Spec1 P f gs bk h0 args r h1) :
    Spec1 P f (gs.map fun p => (p.1, p.2.ren π)) (bk.map π) (hren π h0) (V.renAll π args) (r.ren π) (hren π h1) := by
  intro z vals hW hl ha hgs
  let z0 : Start := { z with g := fun k => z.g (π k) }
  have hW0 : WSim z0 z0.St z0.g h0 z0.w := by
    have := hW.ren hπ
    rw [hren_hren hπ h0 hok] at this
    exact ⟨this.frm, this.st0, this.st1, this.ow, this.ok, this.sep⟩
  have hg : ∀ k, z0.g (π k) = z.g k := fun k => by show z.g (π (π k)) = _; rw [hπ]
  refine (h z0 vals hW0 (by rw [renAll_length] at hl; exact hl) (fun i hi => ?_) (fun p hp => ?_)).mono ?_
  · have := (ha i (by rw [renAll_length]; exact hi)).ren hg
    rw [renAll_get, V.ren_ren hπ] at this
    exact this
  · have := (hgs (p.1, p.2.ren π) (List.mem_map.2 ⟨p, hp, rfl⟩)).ren hg
    rw [V.ren_ren hπ] at this
    exact this
  · rintro e w' ⟨x, r', h1', St', g', rfl, ⟨rfl, rfl⟩, hW', hrx, hkeep⟩
    have hg' : ∀ k, (fun k => g' (π k)) (π k) = g' k := fun k => by simp [hπ]
    refine ⟨x, _, _, St', fun k => g' (π k), rfl, ⟨rfl, rfl⟩, ?_, hrx.ren hg', fun k hk => ?_⟩
    · have := hW'.ren hπ
      exact ⟨this.frm, this.st0, this.st1, this.ow, this.ok, this.sep⟩
    · obtain ⟨k0, hk0, rfl⟩ := List.mem_map.1 hk
      show g' (π (π k0)) = _
      rw [hπ, hkeep k0 hk0]
/-- A call from a state that is known less of. -/
theorem Spec1.pre {P : Program} {f : FuncId} {gs : List (Nat × V)} {bk : List Nat} {h0 h0' : Heap} {args args' : List V} {r : V} {h1 : Heap} (h : Spec1 P f gs bk h0' args' r h1) (hl : args'.length = args.length) (hG : Nat.ble args.length 1000000 = true) (hc : gs.all (fun p => p.2.closed) = true)
    (hle : Le ⟨args.length, initT 0 args ++ globT gs, h0, bk, 0⟩ ⟨args.length, initT 0 args' ++ globT gs, h0', bk, 0⟩) : Spec1 P f gs bk h0 args r h1 := by
  have hG : args.length ≤ G0 := Nat.le_of_ble_eq_true hG
  intro z1 vals hW1 hlv hr hgs
  let z : Start := { z1 with ro := none }
  have hW : WSim z z.St z.g h0 z.w := ⟨hW1.frm, hW1.st0, hW1.st1, hW1.ow, hW1.ok, hW1.sep⟩
  have hsim : Sim z ⟨args.length, initT 0 args ++ globT gs, h0, bk, 0⟩ { tmps := vals, defers := [] } z.w := by
    refine ⟨z.St, z.g, hW, ⟨⟨trivial, by simp; omega⟩, hlv, fun d => ?_⟩, ⟨fun _ _ => rfl, ⟨[], .nil, rfl, fun D hD => by cases hD⟩, fun _ h => (by cases h), fun _ => rfl⟩⟩
    rw [tget_app]
    by_cases hd : d < args.length
    · rw [tget_initT]
      simp only [Nat.zero_le, if_true, Nat.sub_zero]
      rw [if_pos (mem_initT.2 hd), sval, if_pos (by omega)]
      exact hr d hd
    · rw [if_neg (fun h => hd (mem_initT.1 h))]
      exact rel_globT hgs d
  obtain ⟨St', g', hW', hT', hK'⟩ := hle z _ _ hsim
  let z2 : Start := { z1 with St := St', g := g' }
  have hW2 : WSim z2 z2.St z2.g h0' z2.w := ⟨hW'.frm, fun _ h => h, fun k hk => ⟨(hW'.st1 k hk).1, .inl hk⟩, hW'.ow, hW'.ok, hW'.sep⟩
  have hrel : ∀ d, Rel St' z1.w g' (tget (initT 0 args' ++ globT gs) d) (sval { tmps := vals, defers := [] } d) := hT'.2.2
  refine (h z2 vals hW2 (hlv.trans hl.symm) (fun i hi => ?_) (fun p hp => ?_)).mono ?_
  · have := hrel i
    have hiG : i < G0 := by omega
    rw [tget_app, if_pos (mem_initT.2 hi), tget_initT, sval, if_pos hiG] at this
    simpa using this
  · exact (((hgs p hp).closed (List.all_eq_true.1 hc p hp) g').mono hW'.st0 fun _ _ => rfl)
  · rintro e w' ⟨x, r', h1', St2, g2, rfl, ⟨rfl, rfl⟩, hW3, hrx, hkeep⟩
    refine ⟨x, _, _, St2, g2, rfl, ⟨rfl, rfl⟩, ⟨hW3.frm, fun k hk => hW3.st0 k (hW'.st0 k hk), fun k hk => ⟨(hW3.st1 k hk).1, ?_⟩, hW3.ow, hW3.ok, hW3.sep⟩, hrx, fun k hk => (hkeep k hk).trans (hK'.1 k hk)⟩
    rcases (hW3.st1 k hk).2 with h4 | h4 | h4
    · exact (hW'.st1 k h4).2
    · exact .inr (.inl h4)
    · exact .inr (.inr h4)
/-- A nil slice in a box becomes an own row without elements. -/
theorem Le.nilOwnC {s : S} (q i r : Nat) (e sz : Nat) (f : Nat → Nat → V) {t : TypeId} {cs : List V} (hq : s.h.get q = some (.cells t cs)) (hn : cs.getD i .any = .nils)
    (hf : (tfresh r s.t && Heap.fresh r (s.h.del r) && !s.b.contains r && (s.h.get r).isNone && Nat.ble (i + 1) cs.length) = true) :
    Le s ⟨s.N, s.t, (q, .cells t (cs.set i (.own r))) :: ((r, .rows e sz 0 f) :: s.h.del r), s.b, s.o⟩ := by
  rintro z a w ⟨St, g, hW, hT, hK⟩
  simp only [Bool.and_eq_true, Bool.not_eq_true', Option.isNone_iff_eq_none, List.contains_eq_mem, decide_eq_false_iff_not] at hf
  obtain ⟨⟨⟨⟨h1, h2⟩, h3⟩, h4⟩, h5⟩ := hf
  have hilt : i < cs.length := Nat.le_of_ble_eq_true h5
  have hqr : q ≠ r := fun e => by subst e; rw [hq] at h4; cases h4
  have hW1 : WSim z St (g.set r (.slice none 0 0)) ((r, .rows e sz 0 f) :: s.h.del r) w :=
    hW.change (ro := none) (fun k hk => by cases hk) rfl rfl rfl (Nat.le_refl _) (fun _ _ _ => rfl) (.inl h2) (fun k hk => by simp [blockOf] at hk) ⟨[], World.ownsRow_nil w 0 e sz, fun i j hi => by omega, by simp⟩
  refine ⟨St, g.set r (.slice none 0 0), hW1.less fun k b hb => ?_, ?_, hK.set h3 _ (fun _ _ => rfl) rfl⟩
  · by_cases e : k = q
    · subst e
      have hb' : b = .cells t (cs.set i (.own r)) := by simpa [Heap.get] using hb.symm
      subst hb'
      refine ⟨.cells t cs, by simp [Heap.get, Ne.symm hqr, Heap.get_del, hqr, hq], fun v hv => ?_⟩
      obtain ⟨b, vals, rfl, hh, hl, hr, ho⟩ := hv
      refine ⟨b, vals, rfl, hh, by simpa using hl, fun j hj => ?_, fun j hj => ho j (by simpa using hj)⟩
      have hj' : j < cs.length := by simpa using hj
      by_cases e2 : i = j
      · subst e2
        have h6 := hr i hj'
        rw [hn] at h6
        rw [h6.nils_inv]
        have h7 : (cs.set i (.own r)).getD i .any = .own r := by simp [List.getD_eq_getElem?_getD, hj']
        rw [h7]
        exact .own _ _ _ (by simp [Gh.set]) rfl
      · have h7 : (cs.set i (.own r)).getD j .any = cs.getD j .any := by simp [List.getD_eq_getElem?_getD, List.getElem?_set_ne e2]
        rw [h7]; exact hr j hj'
    · refine ⟨b, by simpa [Heap.get, Ne.symm e] using hb, fun _ h => h⟩
  · exact hT.change (fun _ _ => rfl) (fun k hk => Gh.set_ne hk) (.inl h1)
/-- Two numbers change places. -/
def swapN (a b k : Nat) : Nat := bif Nat.beq k a then b else bif Nat.beq k b then a else k
theorem swapN_inv (a b : Nat) : ∀ k, swapN a b (swapN a b k) = k := by
  intro k
  unfold swapN
  cases h1 : Nat.beq k a
  · cases h2 : Nat.beq k b
    · simp [h1, h2]
    · have := Nat.eq_of_beq_eq_true h2
      simp only [cond_false, cond_true, Nat.beq_refl]; exact this.symm
  · have := Nat.eq_of_beq_eq_true h1
    simp only [cond_true, Nat.beq_refl]
    cases h3 : Nat.beq b a
    · simp only [cond_false]; exact this.symm
    · have := Nat.eq_of_beq_eq_true h3
      simp only [cond_true]; omega
end Go.Abs
namespace Go.Abs
open Go

theorem wpIn_n {ro : Option Nat} {n m : Nat} {P : Program} {c : Code} {Q : Exit → Act → World → Prop} {a : Act} {w : World} (h : c.wpIn (WideR ro) n P Q a w) : c.wpIn (WideR ro) m P Q a w :=
  fun b k cs h1 h2 _ => h b k cs h1 h2 (fun _ hd => by cases hd)

theorem within_tget {ids : List Nat} : ∀ {t : List (Nat × V)}, t.all (fun p => V.within ids p.2) = true → ∀ d, V.within ids (tget t d) = true
  | [], _, d => by simp [tget, V.within]
  | (k, v) :: t, h, d => by
    rw [List.all_cons, Bool.and_eq_true] at h
    simp only [tget]
    split
    · exact h.1
    · exact within_tget h.2 d
theorem YSpec.zero {P : Program} {y : Nat} {ids : List Nat} {C : YC} {bk : List Nat} {h0 : Heap} {args : List V} {k : Nat} {h1 : Heap} (h : YSpec P y ids C bk h0 args k h1) (hk : k = 0) : YSpec P y ids C bk h0 args 0 h1 := hk ▸ h
theorem BLe.yldEq {o : Option (List Nat × YC)} {k k' : Nat} (h : k = k') : BLe (.yld o k) (.yld o k') := h ▸ BLe.refl _
theorem bool_ne {k : Nat} (hk : ¬ k = 0) : V.bool false = V.bool (k == 0) := by
  have : (k == 0) = false := by simpa using hk
  rw [this]
theorem fold_set : ∀ (l : List (Nat × Value)) (arr : Array Value), (l.map (·.1)).Nodup → (∀ p, p ∈ l → p.1 < arr.size) →
    (∀ p, p ∈ l → (l.foldl (fun t (p : Nat × Value) => t.setIfInBounds p.1 p.2) arr).getD p.1 undef = p.2) ∧ (∀ d, d ∉ l.map (·.1) → (l.foldl (fun t (p : Nat × Value) => t.setIfInBounds p.1 p.2) arr).getD d undef = arr.getD d undef) ∧
      (l.foldl (fun t (p : Nat × Value) => t.setIfInBounds p.1 p.2) arr).size = arr.size
  | [], arr, _, _ => ⟨by simp, by simp, rfl⟩
  | q :: l, arr, hn, hb => by
    rw [List.map_cons, List.nodup_cons] at hn
    obtain ⟨h1, h2, h3⟩ := fold_set l (arr.setIfInBounds q.1 q.2) hn.2 (fun p hp => by simpa using hb p (List.mem_cons_of_mem _ hp))
    refine ⟨fun p hp => ?_, fun d hd => ?_, by rw [List.foldl_cons, h3]; simp⟩
    · rcases List.mem_cons.1 hp with rfl | hp
      · rw [List.foldl_cons, h2 _ hn.1]
        have := hb p (List.mem_cons_self ..)
        simp [this]
      · rw [List.foldl_cons]; exact h1 p hp
    · rw [List.map_cons, List.mem_cons, not_or] at hd
      rw [List.foldl_cons, h2 d hd.2]
      simp only [Array.getD_eq_getD_getElem?]
      rw [Array.getElem?_setIfInBounds_ne (Ne.symm hd.1)]

theorem tget_zip : ∀ (ps : List Nat) (args : List V) (d : Nat), ps.length = args.length → tget (ps.zip args) d = match ps.idxOf? d with | some i => args.getD i .any | none => .any
  | [], [], d, _ => by simp [tget]
  | [], _ :: _, _, h => by simp at h
  | _ :: _, [], _, h => by simp at h
  | p :: ps, a :: args, d, h => by
    simp only [List.zip_cons_cons, tget, List.idxOf?_cons]
    by_cases e : p = d
    · subst e; simp
    · have ih := tget_zip ps args d (by simpa using h)
      rw [if_neg e, ih]
      have : (p == d) = false := by simpa using e
      rw [this]
      cases ps.idxOf? d <;> simp

/-- How a round's body may end. -/
def YQ (bk : List Nat) (h1 : Heap) (k : Nat) (jumps : List Code) : Exit → S → Prop := fun e s => ∃ s', Le s s' ∧ s'.h = h1 ∧ s'.b = bk ∧
  ((e = .normal ∧ k = 0) ∨ ∃ j c, k = j + 2 ∧ jumps[j]? = some c ∧ ((e = .ret ∧ c = .ret) ∨ ∃ id, e = .exit id ∧ c = .exit id))

theorem idxOf_nodup {l : List Nat} (h : l.Nodup) {i : Nat} (hi : i < l.length) : l.idxOf? l[i] = some i := by
  induction l generalizing i with
  | nil => simp at hi
  | cons a l ih =>
    rw [List.nodup_cons] at h
    rw [List.idxOf?_cons]
    cases i with
    | zero => simp
    | succ i =>
      have hi' : i < l.length := by simpa using hi
      have hne : (a == (a :: l)[i + 1]) = false := by
        simp only [List.getElem_cons_succ, beq_eq_false_iff_ne]
        intro e; exact h.1 (e ▸ List.getElem_mem hi')
      rw [hne]
      simp [ih h.2 hi']

theorem YSpec.body {P : Program} {y : Nat} {ids : List Nat} {C : YC} {bk : List Nat} {h0 : Heap} {args : List V} {k : Nat} {h1 : Heap} (o : Nat)
    (hps : args.length = C.ps.size) (hnd : C.ps.toList.Nodup) (hpb : ∀ p, p ∈ C.ps.toList → p < C.N) (hwt : ∀ d, V.within ids (tget C.t d) = true) (hidb : ids.all bk.contains = true)
    (hyh : h0.get y = none) (hy1 : (hids h1).contains y = false) (hw1 : Heap.within (hids h1) h1 = true)
    (h : AWp P C.assign (fun e s => e = .normal ∧ s.b = bk ∧ AWp P C.body (YQ bk h1 k C.jumps) s) ⟨C.N, C.ps.toList.zip args ++ C.t, h0, bk, o⟩) : YSpec P y ids C bk h0 args k h1 := by
  refine ⟨hps, fun ro z vals l r hW hgy hl hvs hvr => ?_⟩
  obtain ⟨u, hgu, l', r', hu, hl', hyo⟩ := hW.ok y (.yld (some (ids, C)) 0) (by simp [Heap.get])
  rw [hgy] at hgu; cases hgu; cases hu
  rw [hl] at hl'; cases hl'
  obtain ⟨i1, i2, i3, i4, i5, i5', i6, i7, i8, i9⟩ := hyo
  have hlsz : l < z.w.heap.size := (Array.getElem?_eq_some_iff.1 hl).1
  have hyget : Heap.get ((y, Blk.yld (some (ids, C)) 0) :: h0) y = some (.yld (some (ids, C)) 0) := by simp [Heap.get]
  have hget0 : ∀ r b, h0.get r = some b → Heap.get ((y, Blk.yld (some (ids, C)) 0) :: h0) r = some b ∧ y ≠ r := by
    intro q b hb
    have hne : y ≠ q := fun e => by subst e; rw [hyh] at hb; cases hb
    exact ⟨by simp [Heap.get, hne, hb], hne⟩
  have hlSt : ¬ z.St l := (hW.ow y _ _ hyget hgy l rfl).1
  have hlOwn : z.Own l ∨ z.w.heap.size ≤ l := (hW.ow y _ _ hyget hgy l rfl).2
  rw [i3, i4]
  refine roundIn_of_wpIn (F := WideR ro) trivial ?_
  -- the assignment
  let zA : Start := ⟨z.w, fun k => z.St k ∨ k = l, fun k => ∃ r b v, h0.get r = some b ∧ z.g r = some v ∧ blockOf v = some k, z.g, some l⟩
  have hnOA : ¬ zA.Own l := by
    rintro ⟨q, b, v, h1, h2, h3⟩
    obtain ⟨h4, h5⟩ := hget0 q b h1
    exact hW.sep y q _ b _ v hyget h4 hgy h2 h5 l rfl h3
  have hWA0 : WSim zA zA.St zA.g h0 z.w := by
    refine ⟨Frm.refl _ _, fun _ h => h, fun k hk => ⟨?_, .inl hk⟩, fun q b v h1 h2 k h3 => ⟨?_, .inl ⟨q, b, v, h1, h2, h3⟩⟩, fun q b h1 => ?_, fun q q' b b' v v' h1 h1' h2 h2' => ?_⟩
    · rcases hk with hk | rfl
      · exact (hW.st1 k hk).1
      · exact hlsz
    · obtain ⟨h4, _⟩ := hget0 q b h1
      rintro (h5 | rfl)
      · exact (hW.ow q b v h4 h2 k h3).1 h5
      · exact hnOA ⟨q, b, v, h1, h2, h3⟩
    · obtain ⟨h4, _⟩ := hget0 q b h1
      obtain ⟨v, h2, h3⟩ := hW.ok q b h4
      exact ⟨v, h2, h3.mono (fun _ hk => .inl hk) (fun _ _ => rfl) (fun _ _ => rfl) (r := q) (fun _ _ => rfl) (.inr rfl)⟩
    · exact hW.sep q q' b b' v v' (hget0 q b h1).1 (hget0 q' b' h1').1 h2 h2'
  have hvps : vals.size = C.ps.size := hvs.trans hps
  have hfold : (r.params.zip vals).foldl (fun tmps (t, a) => tmps.setIfInBounds t a) r.tmps = ((C.ps.toList.zip vals.toList).foldl (fun t (p : Nat × Value) => t.setIfInBounds p.1 p.2) r.tmps) := by
    rw [i2, ← Array.foldl_toList, Array.toList_zip]
  have hkeys : (C.ps.toList.zip vals.toList).map (·.1) = C.ps.toList := by
    rw [List.map_fst_zip]; simp; omega
  obtain ⟨f1, f2, f3⟩ := fold_set (C.ps.toList.zip vals.toList) r.tmps (by rw [hkeys]; exact hnd) (fun p hp => by
    rw [i7]; exact hpb p.1 (List.of_mem_zip hp).1)
  have hTA : TSim zA.St z.w zA.g C.N (C.ps.toList.zip args ++ C.t) { tmps := (r.params.zip vals).foldl (fun tmps (t, a) => tmps.setIfInBounds t a) r.tmps, defers := [] } := by
    rw [hfold]
    refine ⟨⟨trivial, by rw [f3, i7]; exact i8⟩, by rw [f3, i7], fun d => ?_⟩
    have hzl : C.ps.toList.length = args.length := by simp [hps]
    have hzk : (C.ps.toList.zip args).map (·.1) = C.ps.toList := by rw [List.map_fst_zip]; omega
    rw [tget_app, hzk]
    by_cases hd : d ∈ C.ps.toList
    · rw [if_pos hd]
      obtain ⟨i, hi, rfl⟩ := List.getElem_of_mem hd
      rw [tget_zip _ _ _ hzl, idxOf_nodup hnd hi]
      have hdN : C.ps.toList[i] < G0 := Nat.lt_of_lt_of_le (hpb _ hd) i8
      rw [sval, if_pos hdN]
      have hiv : i < vals.size := by simp at hi; omega
      have := f1 (C.ps.toList[i], vals[i]) (by
        rw [List.mem_iff_getElem]
        exact ⟨i, by simp at hi ⊢; omega, by simp⟩)
      dsimp only at this ⊢
      rw [this]
      have h5 := (hvr i (by omega)).mono (St' := zA.St) (fun _ hk => .inl hk) (fun _ _ => rfl)
      simpa [hiv] using h5
    · rw [if_neg hd]
      have h5 := (((i9 d).within (g' := z.g) (fun i hi => i1 i hi) (hwt d)).mono (St' := zA.St) (fun _ hk => .inl hk) (fun _ _ => rfl))
      unfold sval at h5 ⊢
      split
      · rename_i hlt
        rw [if_pos hlt] at h5
        dsimp only at h5 ⊢
        rw [f2 d (by rw [hkeys]; exact hd)]
        exact h5
      · rename_i hlt; rw [if_neg hlt] at h5; exact h5
  have hsA : Sim zA ⟨C.N, C.ps.toList.zip args ++ C.t, h0, bk, o⟩ { tmps := (r.params.zip vals).foldl (fun tmps (t, a) => tmps.setIfInBounds t a) r.tmps, defers := [] } z.w :=
    ⟨zA.St, zA.g, hWA0, hTA, ⟨fun _ _ => rfl, ⟨[], .nil, rfl, fun D hD => by cases hD⟩, fun q hq => (by cases hq; exact ⟨.inr rfl, r, hl⟩), fun _ => rfl⟩⟩
  refine wpIn_mono (wpIn_n (n := 1) (h zA _ _ hsA)) fun e a1 w1 ⟨s1, ⟨he, hsb, hB⟩, hsim⟩ => ?_
  subst he
  obtain ⟨St1, g1, hWA, hT1, hK1⟩ := hsim
  have hSt1l : St1 l := hWA.st0 l (.inr rfl)
  have hw1l : w1.heap[l]? = some (.loop r) := by rw [hWA.frm.block l hlsz hnOA]; exact hl
  refine ⟨w1.putObj l (.loop { r with state := .busy }), run_beginRound hw1l (i5 rfl).1, ?_⟩
  -- the body
  let w2 : World := w1.putObj l (.loop { r with state := .busy })
  have hlsz1 : l < w1.heap.size := (Array.getElem?_eq_some_iff.1 hw1l).1
  have hw2 : ∀ k, k ≠ l → w2.heap[k]? = w1.heap[k]? := fun k hk => World.putObj_heap_other hk
  let zB : Start := ⟨w2, St1, fun k => ∃ r b v, s1.h.get r = some b ∧ g1 r = some v ∧ blockOf v = some k, g1, some l⟩
  have hownl : ∀ q b v k, s1.h.get q = some b → g1 q = some v → blockOf v = some k → k ≠ l := fun q b v k h1 h2 h3 e => (hWA.ow q b v h1 h2 k h3).1 (e ▸ hSt1l)
  have hcutS : ∀ k, St1 k → isData w1 k → (fun k => St1 k ∧ k ≠ l) k := fun k hk hd => ⟨hk, fun e => not_loop hd r (e ▸ hw1l)⟩
  have hWB0 : WSim zB St1 g1 s1.h w2 := by
    refine ⟨Frm.refl _ _, fun _ h => h, fun k hk => ⟨?_, .inl hk⟩, fun q b v h1 h2 k h3 => ⟨(hWA.ow q b v h1 h2 k h3).1, .inl ⟨q, b, v, h1, h2, h3⟩⟩, fun q b h1 => ?_, hWA.sep⟩
    · show k < w2.heap.size
      rw [show w2.heap.size = w1.heap.size from World.putObj_size]; exact (hWA.st1 k hk).1
    · obtain ⟨v, h2, h3⟩ := hWA.ok q b h1
      refine ⟨v, h2, ?_⟩
      have h4 := h3.cut (St' := fun k => St1 k ∧ k ≠ l) (w' := w2) hcutS (fun k hk => hw2 k hk.2) fun k hk => hw2 k (hownl q b v k h1 h2 hk)
      exact h4.mono (fun _ hk => hk.1) (fun _ _ => rfl) (fun _ _ => rfl) (r := q) (fun _ _ => rfl) (.inr rfl)
  have hsB : Sim zB s1 a1 w2 := by
    refine ⟨St1, g1, hWB0, ⟨hT1.1, hT1.2.1, fun d => ?_⟩, ⟨fun _ _ => rfl, ⟨[], .nil, hK1.rd rfl, fun D hD => by cases hD⟩, fun q hq => ?_, fun _ => hK1.rd rfl⟩⟩
    · exact ((hT1.2.2 d).cut (St' := fun k => St1 k ∧ k ≠ l) (w' := w2) hcutS (fun k hk => hw2 k hk.2)).mono (fun _ hk => hk.1) (fun _ _ => rfl)
    · cases hq; exact ⟨hSt1l, _, World.putObj_heap_same hlsz1⟩
  refine wpIn_mono (wpIn_n (n := 1) (hB zB _ _ hsB)) fun e a3 w3 ⟨s3, ⟨s4, hle, hs4h, hs4b, hend⟩, hsim3⟩ => ?_
  obtain ⟨St3, g3, hWB, _, hK3⟩ := hle _ _ _ hsim3
  rw [hs4h] at hWB
  have hnOB : ¬ zB.Own l := by
    rintro ⟨q, b, v, h1, h2, h3⟩
    exact hownl q b v l h1 h2 h3 rfl
  have hw3l : w3.heap[l]? = some (.loop { r with state := .busy }) := by
    rw [hWB.frm.block l (by show l < w2.heap.size; rw [show w2.heap.size = w1.heap.size from World.putObj_size]; exact hlsz1) hnOB]
    exact World.putObj_heap_same hlsz1
  have fin : ∀ (r4 : Loop), r4.params = r.params → r4.assign = r.assign → r4.body = r.body → r4.tmps = r.tmps → (k = 0 → r4.state = .ready ∧ r4.pending = none) → (k = 1 → r4.state = .busy) → (∀ j, k = j + 2 → r4.state = .done ∧ r4.pending = C.jumps[j]?) →
      ∃ St' g', WSim z St' g' ((y, .yld (some (ids, C)) k) :: h1) (w3.putObj l (.loop r4)) ∧ ∀ i, i ∈ y :: bk → g' i = z.g i := by
    intro r4 e1 e2 e3 e4 e5 e5' e6
    let w4 : World := w3.putObj l (.loop r4)
    have hw4 : ∀ k, k ≠ l → w4.heap[k]? = w3.heap[k]? := fun k hk => World.putObj_heap_other hk
    have hlsz3 : l < w3.heap.size := (Array.getElem?_eq_some_iff.1 hw3l).1
    let g4 : Gh := fun i => if i = y then z.g y else g3 i
    let St4 : Nat → Prop := fun k => St3 k ∧ k ≠ l
    have hsz1 : z.w.heap.size ≤ w1.heap.size := hWA.frm.size
    have hsz2 : w2.heap.size = w1.heap.size := World.putObj_size
    have hsz3 : w2.heap.size ≤ w3.heap.size := hWB.frm.size
    have hsz4 : w4.heap.size = w3.heap.size := World.putObj_size
    have hOA : ∀ k, zA.Own k → z.Own k ∨ z.w.heap.size ≤ k := by
      rintro k ⟨q, b, v, h1, h2, h3⟩
      exact (hW.ow q b v (hget0 q b h1).1 h2 k h3).2
    have hOB : ∀ k, zB.Own k → z.Own k ∨ z.w.heap.size ≤ k := by
      rintro k ⟨q, b, v, h1, h2, h3⟩
      rcases (hWA.ow q b v h1 h2 k h3).2 with h4 | h4
      · exact hOA k h4
      · exact .inr h4
    have hOBn : ∀ k, zB.Own k → ¬ St1 k := by
      rintro k ⟨q, b, v, h1, h2, h3⟩
      exact (hWA.ow q b v h1 h2 k h3).1
    have hOAn : ∀ k, zA.Own k → ¬ z.St k := by
      rintro k ⟨q, b, v, h1, h2, h3⟩
      exact (hW.ow q b v (hget0 q b h1).1 h2 k h3).1
    have hheap : ∀ k, k < z.w.heap.size → k ≠ l → ¬ zA.Own k → ¬ zB.Own k → w4.heap[k]? = z.w.heap[k]? := by
      intro k hk hkl h1 h2
      rw [hw4 k hkl, hWB.frm.block k (by show k < w2.heap.size; omega) h2, hw2 k hkl, hWA.frm.block k hk h1]
    have hStl : ∀ k, z.St k → k ≠ l := fun k hk e => hlSt (e ▸ hk)
    have hSt4 : ∀ k, z.St k → St4 k := fun k hk => ⟨hWB.st0 k (hWA.st0 k (.inl hk)), hStl k hk⟩
    have hStw : ∀ k, z.St k → w4.heap[k]? = z.w.heap[k]? := fun k hk =>
      hheap k (hW.st1 k hk).1 (hStl k hk) (fun h => hOAn k h hk) (fun h => hOBn k h (hWA.st0 k (.inl hk)))
    have hcut4 : ∀ k, St3 k → isData w3 k → St4 k := fun k hk hd => ⟨hk, fun e => not_loop hd _ (e ▸ hw3l)⟩
    have hyn : y ∉ hids h1 := by simpa using hy1
    have hg4 : ∀ i, i ∈ hids h1 → g4 i = g3 i := fun i hi => by
      have : i ≠ y := fun e => hyn (e ▸ hi)
      simp [g4, this]
    have hownB : ∀ q b v k, h1.get q = some b → g3 q = some v → blockOf v = some k → k ≠ l := by
      intro q b v k h5 h6 h7 e
      subst e
      rcases (hWB.ow q b v h5 h6 _ h7).2 with h8 | h8
      · exact hnOB h8
      · have : w2.heap.size ≤ k := h8; omega
    have hkeep : ∀ i, i ∈ y :: bk → g4 i = z.g i := by
      intro i hi
      by_cases e : i = y
      · subst e; simp [g4]
      · have hi' : i ∈ bk := by simpa [e] using hi
        have h5 : g3 i = g1 i := hK3.keep i (by rw [hs4b]; exact hi')
        have h6 : g1 i = z.g i := hK1.keep i (by rw [hsb]; exact hi')
        simp [g4, e, h5, h6]
    have hgetq : ∀ q b, Heap.get ((y, Blk.yld (some (ids, C)) k) :: h1) q = some b → q ≠ y → h1.get q = some b := by
      intro q b hb hne
      simpa [Heap.get, Ne.symm hne] using hb
    refine ⟨St4, g4, ⟨⟨hWB.frm.os.trans hWA.frm.os |>.trans hW.frm.os, hWB.frm.tape.trans hWA.frm.tape |>.trans hW.frm.tape, hWB.frm.output.trans hWA.frm.output |>.trans hW.frm.output, by show _ ≤ w4.heap.size; omega, fun k hk hno => ?_⟩, hSt4, fun k hk => ⟨?_, ?_⟩, fun q b v h5 h6 q2 h7 => ?_, fun q b h5 => ?_, fun q q' b b' v v' h5 h5' h6 h6' hne q2 h7 h8 => ?_⟩, hkeep⟩
    · refine hheap k hk (fun e => ?_) (fun h => ?_) (fun h => ?_)
      · subst e; rcases hlOwn with h | h
        · exact hno h
        · omega
      · rcases hOA k h with h | h
        · exact hno h
        · omega
      · rcases hOB k h with h | h
        · exact hno h
        · omega
    · show k < w4.heap.size
      rw [hsz4]; exact (hWB.st1 k hk.1).1
    · rcases (hWB.st1 k hk.1).2 with h5 | h5 | h5
      · rcases (hWA.st1 k h5).2 with (h6 | h6) | h6 | h6
        · exact .inl h6
        · exact absurd h6 hk.2
        · exact .inr (hOA k h6)
        · exact .inr (.inr h6)
      · exact .inr (hOB k h5)
      · have : w2.heap.size ≤ k := h5
        exact .inr (.inr (by omega))
    · by_cases e : q = y
      · subst e
        have h9 : g4 q = z.g q := by simp [g4]
        rw [h9, hgy] at h6; cases h6
        simp [blockOf] at h7; subst h7
        exact ⟨fun h => h.2 rfl, hlOwn⟩
      · have h10 := hgetq q b h5 e
        have h9 : g4 q = g3 q := hg4 q (Heap.get_mem h10)
        rw [h9] at h6
        have h11 := hWB.ow q b v h10 h6 q2 h7
        refine ⟨fun h => h11.1 h.1, ?_⟩
        rcases h11.2 with h12 | h12
        · exact hOB q2 h12
        · have : w2.heap.size ≤ q2 := h12
          exact .inr (by omega)
    · by_cases e : q = y
      · subst e
        have h9 : g4 q = z.g q := by simp [g4]
        have h10 : b = .yld (some (ids, C)) k := by simpa [Heap.get] using h5.symm
        subst h10
        refine ⟨_, h9.trans hgy, l, r4, rfl, World.putObj_heap_same hlsz3, ⟨fun i hi => ?_, e1.trans i2, e2.trans i3, e3.trans i4, e5, e5', e6, by rw [e4]; exact i7, i8, fun d => ?_⟩⟩
        · rw [hkeep i (List.mem_cons_of_mem _ (by simpa using List.all_eq_true.1 hidb i hi))]; exact i1 i hi
        · rw [e4]; exact (i9 d).mono hSt4 hStw
      · have h10 := hgetq q b h5 e
        obtain ⟨v, h11, h12⟩ := hWB.ok q b h10
        refine ⟨v, (hg4 q (Heap.get_mem h10)).trans h11, ?_⟩
        have h13 := h12.cut (St' := St4) (w' := w4) hcut4 (fun k hk => hw4 k hk.2) fun k hk => hw4 k (hownB q b v k h10 h11 hk)
        exact h13.ghost hg4 (Heap.within_get hw1 h10)
    · by_cases e : q = y
      · subst e
        have h9 : g4 q = z.g q := by simp [g4]
        rw [h9, hgy] at h6; cases h6
        simp [blockOf] at h7; subst h7
        have h10 := hgetq q' b' h5' (Ne.symm hne)
        have h11 : g4 q' = g3 q' := hg4 q' (Heap.get_mem h10)
        rw [h11] at h6'
        exact hownB q' b' v' l h10 h6' h8 rfl
      · have h10 := hgetq q b h5 e
        have h11 : g4 q = g3 q := hg4 q (Heap.get_mem h10)
        rw [h11] at h6
        by_cases e' : q' = y
        · subst e'
          have h9 : g4 q' = z.g q' := by simp [g4]
          rw [h9, hgy] at h6'; cases h6'
          simp [blockOf] at h8
          exact hownB q b v q2 h10 h6 h7 h8.symm
        · have h10' := hgetq q' b' h5' e'
          have h11' : g4 q' = g3 q' := hg4 q' (Heap.get_mem h10')
          rw [h11'] at h6'
          exact hWB.sep q q' b b' v v' h10 h10' h6 h6' hne q2 h7 h8
  rcases hend with ⟨rfl, hk0⟩ | ⟨j, c, hkj, hc, ⟨rfl, rfl⟩ | ⟨id, rfl, rfl⟩⟩
  · obtain ⟨St', g', h5, h6⟩ := fin { r with state := .ready, pending := none } rfl rfl rfl rfl (fun _ => ⟨rfl, rfl⟩) (fun h => by omega) (fun j h => by omega)
    exact ⟨_, _, run_endRound none hw3l, St', g', by subst hk0; rfl, h5, h6⟩
  · obtain ⟨St', g', h5, h6⟩ := fin { r with state := .done, pending := some .ret } rfl rfl rfl rfl (fun h => by omega) (fun h => by omega) (fun j' h => by
      have : j' = j := by omega
      subst this; exact ⟨rfl, hc.symm⟩)
    exact ⟨_, _, run_endRound (some .ret) hw3l, St', g', by subst hkj; rfl, h5, h6⟩
  · obtain ⟨St', g', h5, h6⟩ := fin { r with state := .done, pending := some (.exit id) } rfl rfl rfl rfl (fun h => by omega) (fun h => by omega) (fun j' h => by
      have : j' = j := by omega
      subst this; exact ⟨rfl, hc.symm⟩)
    exact ⟨_, _, run_endRound (some (.exit id)) hw3l, St', g', by subst hkj; rfl, h5, h6⟩

/-- The world turns at one block that is the call's own and that nothing names. -/
theorem WSim.off {z : Start} {St : Nat → Prop} {g : Gh} {h : Heap} {w : World} (hs : WSim z St g h w) {l : Nat} {o : Obj} (h1 : ¬ St l) (h2 : z.Own l ∨ z.w.heap.size ≤ l) (h3 : ∀ r b v, h.get r = some b → g r = some v → blockOf v ≠ some l) : WSim z St g h (w.putObj l o) := by
  have hw : ∀ k, k ≠ l → (w.putObj l o).heap[k]? = w.heap[k]? := fun k hk => World.putObj_heap_other hk
  refine ⟨⟨hs.frm.os, hs.frm.tape, hs.frm.output, by rw [World.putObj_size]; exact hs.frm.size, fun k hk hno => ?_⟩, hs.st0, fun k hk => by rw [World.putObj_size]; exact hs.st1 k hk, hs.ow, fun r b hb => ?_, hs.sep⟩
  · rw [hw k (fun e => by subst e; rcases h2 with h | h; exact hno h; omega)]; exact hs.frm.block k hk hno
  · obtain ⟨v, hv, hok⟩ := hs.ok r b hb
    exact ⟨v, hv, hok.mono (fun _ h => h) (fun k hk => hw k (fun e => h1 (e ▸ hk))) (fun k hk => hw k (fun e => h3 r b v hb hv (e ▸ hk))) (r := r) (fun _ _ => rfl) (.inr rfl)⟩

theorem enterLoop_run {P : Program} {w : World} (fn : FuncId) (tmps : Array Value) (ps : Array Tmp) (assign body : Code) (ro : Option Nat) (hro : ∀ l, ro = some l → ∃ r, w.heap[l]? = some (.loop r)) :
    ∃ l mark w1 lp, (Instr.enterLoop fn tmps ps assign body ro).run P w = .ok (l, mark) w1 ∧ w1.heap[l]? = some (.loop lp) ∧ lp.state = .ready ∧ lp.pending = none ∧ lp.tmps = tmps ∧ lp.params = ps ∧ lp.assign = assign ∧ lp.body = body ∧
      w1.os = w.os ∧ w1.tape = w.tape ∧ w1.output = w.output ∧ (∀ k, k < w.heap.size → w1.heap[k]? = w.heap[k]?) ∧ w.heap.size ≤ l ∧ l < w1.heap.size ∧ w.heap.size ≤ w1.heap.size ∧
      ((mark = [] ∧ ro ≠ none) ∨ ∃ D, mark = [markD D] ∧ w.heap.size ≤ D ∧ D < w1.heap.size ∧ D ≠ l ∧ w1.heap[D]? = some (.deferred (some [])) ∧ ro = none) := by
  cases ro with
  | none =>
    refine ⟨_, _, _, { state := .ready, pending := none, fn, tmps, params := ps, assign, body, defers := w.heap.size }, run_enterLoop_outer fn tmps ps assign body, ?_, rfl, rfl, rfl, rfl, rfl, rfl, rfl, rfl, rfl, fun k hk => ?_, by omega, by simp, by simp; omega, .inr ⟨w.heap.size, rfl, Nat.le_refl _, by simp; omega, by omega, ?_, rfl⟩⟩
    · have := World.alloc_heap_new (w.alloc (.deferred (some []))) (.loop { state := .ready, pending := none, fn, tmps, params := ps, assign, body, defers := w.heap.size })
      simpa using this
    · have h1 : k < (w.alloc (.deferred (some []))).heap.size := by simp; omega
      show ((w.heap.push _).push _)[k]? = _
      rw [Array.getElem?_push_lt (by simp; omega), Array.getElem_push_lt hk, Array.getElem?_eq_getElem hk]
    · show ((w.heap.push _).push _)[w.heap.size]? = _
      rw [Array.getElem?_push_lt (by simp)]
      simp
  | some l0 =>
    obtain ⟨r0, hr0⟩ := hro l0 rfl
    refine ⟨_, _, _, { state := .ready, pending := none, fn, tmps, params := ps, assign, body, defers := r0.defers }, run_enterLoop_inner hr0 fn tmps ps assign body, World.alloc_heap_new _ _, rfl, rfl, rfl, rfl, rfl, rfl, rfl, rfl, rfl, fun k hk => ?_, Nat.le_refl _, by simp, by simp, .inl ⟨rfl, by simp⟩⟩
    show (w.heap.push _)[k]? = _
    rw [Array.getElem?_push_lt hk, Array.getElem?_eq_getElem hk]

theorem blks_get_of {h : Heap} {ids : List Nat} {r : Nat} {b : Blk} (hb : (blks h ids).get r = some b) : h.get r = some b := by
  unfold blks at hb
  have hm := get_mem2 hb
  rw [List.mem_filterMap] at hm
  obtain ⟨r', _, hr'⟩ := hm
  split at hr'
  · rename_i b' hb'; cases hr'; exact hb'
  · cases hr'

theorem AWp.rangeFunc {P : Program} {Q : Exit → S → Prop} {s : S} {g : Operand} {ps : Array Tmp} {assign body : Code} (y : Nat) (ids ds : List Nat) (jumps : List Code) (fid : FuncId) (caps : List V) (cc : CC) (k : Nat) (h1' : Heap) (s' : S)
    (hg : raw s.t g = .fn (.func fid) caps) (hcb : callable P fid = true)
    (hyB : ((s.h.get y).isNone && !s.b.contains y && tfresh y s.t && Heap.fresh y s.h && !ids.contains y && V.freshAll y caps && (h1'.get y).isNone && !cc.nw.contains y && !cc.take.contains y && !cc.lent.contains y) = true)
    (hcall : ∀ g0, callP P true fid (cc.gl.map fun k => (k, tget s.t (G0 + k))) cc.keep ((y, .yld (some (ids, ⟨s.N, ds.map (fun d => (d, tget s.t d)), ps, assign, body, jumps, g0⟩)) 0) :: blks s.h cc.take) (blks s.h cc.lent) cc.lent (.own y :: caps) cc.args cc.r
      ((y, .yld (some (ids, ⟨s.N, ds.map (fun d => (d, tget s.t d)), ps, assign, body, jumps, g0⟩)) k) :: h1'))
    (hob : ∀ C, outB (y :: s.b) ((y, .yld (some (ids, C)) k) :: h1') cc.nw cc.r = true)
    (hlent : cc.lent.all (fun r => ((blks s.h cc.take).get r).isNone && (match (blks s.h cc.lent).get r with | some (.rows _ _ _ _) => true | _ => false)) = true)
    (hnw : (hids h1').all (fun k => cc.nw.contains k || cc.keep.contains k) = true) (hyk : cc.keep.contains y = true)
    (hpre : (hids h1').all (fun k => (hids (blks s.h cc.take)).contains k || (s.h.get k).isNone) = true) (hk : k ≠ 1)
    (hs' : s' = ⟨s.N, tdrops cc.nw s.t, h1' ++ hdrops cc.nw (dels (hids (blks s.h cc.take)) s.h), s.b, s.o⟩)
    (h0 : k = 0 → Q .normal s') (hj : ∀ j, k = j + 2 → ∃ c, jumps[j]? = some c ∧ AWp P c Q s') : AWp P (.rangeFunc g ps assign body) Q s := by
  rintro z a w ⟨St, gh, hW, hT, hKp⟩
  simp only [Bool.and_eq_true, Bool.not_eq_true', Option.isNone_iff_eq_none, List.contains_eq_mem, decide_eq_false_iff_not] at hyB
  obtain ⟨⟨⟨⟨⟨⟨⟨⟨⟨hyh, hyb⟩, hyt⟩, hyfh⟩, hyi⟩, hyc⟩, hyh1⟩, hynw⟩, hytk⟩, hyln⟩ := hyB
  have hgr := rel_raw hT g
  rw [hg] at hgr
  generalize hgv : a.eval g = gv at hgr
  cases hgr with
  | fn _ _ _ cvs hcl hcr =>
  refine wpIn_rangeFunc fun fn _ => ?_
  obtain ⟨l, mark, w1, lp, hent, hl, hlp1, hlp2, hlp3, hlp4, hlp5, hlp6, ho1, ho2, ho3, hold, hlge, hllt, hszle, hmark⟩ := enterLoop_run (P := P) (w := w) fn a.tmps ps assign body z.ro (fun l hl => (hKp.rcd l hl).2)
  refine ⟨l, mark, w1, ⟨.fn (.func fid) cvs, #[.func (.yield l) #[] #[]]⟩, w1, fid, #[.func (.yield l) #[] #[]] ++ cvs, w1, hent, ?_, fun _ _ => trivial, ?_, fun h => (by cases h), ?_⟩
  · simp [resolve, hgv, Deferred.ofValue]
    rfl
  · unfold callable at hcb
    split at hcb
    case h_2 => cases hcb
    rename_i fn' hfn
    simp only [Bool.and_eq_true, bne_iff_ne, ne_eq] at hcb
    have hb : fn'.body.isNone = false := by cases hb : fn'.body <;> simp_all
    simp only [invoke, callFunc, run_program, hfn, Sem.run_bind, Result.andThen_ok]
    simp [hcb.1, hb]
  · refine callsR ?_
    let C : YC := ⟨s.N, ds.map (fun d => (d, tget s.t d)), ps, assign, body, jumps, gh⟩
    let z1 : Start := { z with g := fun i => if i = y then some (.func (.yield l) #[] #[]) else z.g i }
    let g1 : Gh := gh.set y (.func (.yield l) #[] #[])
    let St1 : Nat → Prop := fun q => St q ∨ ([markD q] = mark)
    let s1 : S := ⟨s.N, s.t, (y, .yld (some (ids, C)) 0) :: s.h, y :: s.b, s.o⟩
    let a1 : Act := { a with defers := mark ++ a.defers }
    have hStlt : ∀ q, St q → q < w.heap.size := fun q hq => (hW.st1 q hq).1
    have hStw : ∀ q, St q → w1.heap[q]? = w.heap[q]? := fun q hq => hold q (hStlt q hq)
    have hStS : ∀ q, St q → St1 q := fun q hq => .inl hq
    have hmk : ∀ q, [markD q] = mark → w.heap.size ≤ q ∧ q < w1.heap.size ∧ q ≠ l ∧ w1.heap[q]? = some (.deferred (some [])) ∧ z.ro = none := by
      intro q hq
      rcases hmark with ⟨h, _⟩ | ⟨D, h, h2, h3, h4, h5, h6⟩
      · rw [h] at hq; cases hq
      · rw [h] at hq
        have : q = D := by simpa [markD] using hq
        subst this; exact ⟨h2, h3, h4, h5, h6⟩
    have hne : ∀ {q b}, s.h.get q = some b → q ≠ y := fun hb e => by rw [e, hyh] at hb; cases hb
    have hget1 : ∀ {q b}, s.h.get q = some b → s1.h.get q = some b := by
      intro q b hb
      have := hne hb
      simp [s1, Heap.get, Ne.symm this, hb]
    have hlow := own_lt hW
    have hblk1 : ∀ q b v, s.h.get q = some b → gh q = some v → BlkOk St w gh v b → BlkOk St1 w1 g1 v b := fun q b v hb hv h =>
      h.mono hStS hStw (fun k hk => hold k (hlow q b v k hb hv hk)) (r := y) (fun k hk => Gh.set_ne hk) (.inl (Heap.fresh_get hyfh hb))
    have hW1 : WSim z1 St1 g1 s1.h w1 := by
      refine ⟨⟨ho1.trans hW.frm.os, ho2.trans hW.frm.tape, ho3.trans hW.frm.output, Nat.le_trans hW.frm.size hszle, fun q hq hno => (hold q (Nat.lt_of_lt_of_le hq hW.frm.size)).trans (hW.frm.block q hq hno)⟩, fun q hq => .inl (hW.st0 q hq), ?_, ?_, ?_, ?_⟩
      · rintro q (hq | hq)
        · exact ⟨Nat.lt_of_lt_of_le (hStlt q hq) hszle, (hW.st1 q hq).2⟩
        · have := hmk q hq; exact ⟨this.2.1, .inr (.inr (Nat.le_trans hW.frm.size this.1))⟩
      · intro q b v hb hv k hk
        by_cases e : q = y
        · subst e
          simp [g1, Gh.set] at hv; subst hv
          simp [blockOf] at hk; subst hk
          refine ⟨?_, .inr (Nat.le_trans hW.frm.size hlge)⟩
          rintro (h | h)
          · have := hStlt _ h; omega
          · exact (hmk _ h).2.2.1 rfl
        · have hb' : s.h.get q = some b := by simpa [s1, Heap.get, Ne.symm e] using hb
          have hv' : gh q = some v := by simpa [g1, Gh.set, e] using hv
          have h5 := hW.ow q b v hb' hv' k hk
          refine ⟨?_, h5.2⟩
          rintro (h | h)
          · exact h5.1 h
          · have := (hmk _ h).1; have := hlow q b v k hb' hv' hk; omega
      · intro q b hb
        by_cases e : q = y
        · subst e
          have hb' : b = .yld (some (ids, C)) 0 := by simpa [s1, Heap.get] using hb.symm
          subst hb'
          refine ⟨_, by simp [g1, Gh.set], l, lp, rfl, hl, fun i hi => ?_, hlp4, hlp5, hlp6, fun _ => ⟨hlp1, hlp2⟩, fun h => by omega, fun j h => by omega, by rw [hlp3]; exact hT.2.1, by show s.N ≤ G0; rw [← hT.2.1]; exact hT.1.2, fun d => ?_⟩
          · exact Gh.set_ne (fun e => hyi (e ▸ hi))
          · have h5 : Rel St w gh (tget (ds.map fun d => (d, tget s.t d)) d) (sval a d) := by
              rcases tget_proj s.t d ds with h | h <;> rw [h]
              · exact hT.2.2 d
              · exact .any _ _
            have h6 : sval { tmps := lp.tmps, defers := [] } d = sval a d := by rw [hlp3]; rfl
            rw [h6]
            exact h5.mono hStS hStw
        · have hb' : s.h.get q = some b := by simpa [s1, Heap.get, Ne.symm e] using hb
          obtain ⟨v, hv, hok⟩ := hW.ok q b hb'
          exact ⟨v, by simp [g1, Gh.set, e, hv], hblk1 q b v hb' hv hok⟩
      · intro q q' b b' v v' hb hb' hv hv' hqq k hk hk'
        by_cases e : q = y
        · subst e
          have hb2 : s.h.get q' = some b' := by simpa [s1, Heap.get, hqq] using hb'
          have hv2 : gh q' = some v' := by simpa [g1, Gh.set, Ne.symm hqq] using hv'
          simp [g1, Gh.set] at hv; subst hv
          simp [blockOf] at hk; subst hk
          have := hlow q' b' v' _ hb2 hv2 hk'; omega
        · have hb1 : s.h.get q = some b := by simpa [s1, Heap.get, Ne.symm e] using hb
          have hv1 : gh q = some v := by simpa [g1, Gh.set, e] using hv
          by_cases e' : q' = y
          · subst e'
            simp [g1, Gh.set] at hv'; subst hv'
            simp [blockOf] at hk'; subst hk'
            have := hlow q b v _ hb1 hv1 hk; omega
          · have hb2 : s.h.get q' = some b' := by simpa [s1, Heap.get, Ne.symm e'] using hb'
            have hv2 : gh q' = some v' := by simpa [g1, Gh.set, e'] using hv'
            exact hW.sep q q' b b' v v' hb1 hb2 hv1 hv2 hqq k hk hk'
    have hT1 : TSim St1 w1 g1 s1.N s1.t a1 := ⟨hT.1, hT.2.1, fun d => ((hT.2.2 d).rebind (g' := g1) (fun k hk => Gh.set_ne hk) (tfresh_get hyt)).mono hStS hStw⟩
    have hK1 : KD z1 St1 w1 g1 s1.b a1 := by
      obtain ⟨hk1, ⟨dm, hd1, hd2, hd3⟩, hk3, hk4⟩ := hKp
      refine ⟨fun r hr => ?_, ?_, fun q hq => ?_, fun hro => ?_⟩
      · by_cases e : r = y
        · subst e; simp [g1, Gh.set, z1]
        · have hr' : r ∈ s.b := by simpa [s1, e] using hr
          simp [g1, Gh.set, z1, e]; exact hk1 r hr'
      · rcases hmark with ⟨h, _⟩ | ⟨D, h, h2, h3, h4, h5, h6⟩
        · refine ⟨dm, hd1, by simp [a1, h, hd2], fun D hD => ?_⟩
          obtain ⟨e1, e2, e3⟩ := hd3 D hD
          exact ⟨hStS D e1, by rw [hStw D e1]; exact e2, e3⟩
        · refine ⟨D :: dm, List.nodup_cons.2 ⟨fun hD => ?_, hd1⟩, by simp [a1, h, hd2], fun D' hD' => ?_⟩
          · have := hStlt D (hd3 D hD).1; omega
          · rcases List.mem_cons.1 hD' with rfl | hD'
            · exact ⟨.inr h.symm, h5, Nat.le_trans hW.frm.size h2⟩
            · obtain ⟨e1, e2, e3⟩ := hd3 D' hD'
              exact ⟨hStS D' e1, by rw [hStw D' e1]; exact e2, e3⟩
      · obtain ⟨e1, r, e2⟩ := hk3 q hq
        exact ⟨hStS q e1, r, by rw [hStw q e1]; exact e2⟩
      · rcases hmark with ⟨h, _⟩ | ⟨D, h, h2, h3, h4, h5, h6⟩
        · simp [a1, h]; exact hk4 hro
        · have : z.ro.isSome = true := hro
          rw [h6] at this; cases this
    have hids0 : ∀ q, q ∈ hids (blks s.h cc.take) → q ≠ y := by
      intro q hq e
      subst e
      obtain ⟨b, hb⟩ := Heap.mem_get hq
      exact hne (blks_get_of hb) rfl
    refine call_frame (z := z1) (s := s1) (a := a1) hW1 hT1 hK1 rfl (args := .own y :: caps) (gs := cc.gl.map fun k => (k, tget s.t (G0 + k))) (bk := cc.keep) (d := none) (t0 := []) (v := cc.r) (nw := cc.nw) (hcall gh) ?_ ?_ ?_ (fun k hk => by cases hk) (fun _ _ _ _ h => h) (fun _ => rfl) rfl ?_ (hob C) ?_ ?_ fun x w2 hsim => ?_
    · exact rel_gl hT1
    · simp [hcl]; omega
    · intro i hi
      cases i with
      | zero =>
        have e1 : (#[Value.func (.yield l) #[] #[]] ++ cvs).getD 0 undef = .func (.yield l) #[] #[] := by
          simp [Array.getD_eq_getD_getElem?, Array.getElem?_append]
        rw [e1]
        exact Rel.own (St := St1) (w := w1) g1 y (.func (.yield l) #[] #[]) (by simp [g1, Gh.set]) rfl
      | succ i =>
        have hi' : i < caps.length := by simpa using hi
        have h5 := ((hcr i hi').rebind (g' := g1) (fun k hk => Gh.set_ne hk) (V.freshAll_get hyc)).mono hStS hStw
        have e1 : (#[Value.func (.yield l) #[] #[]] ++ cvs).getD (i + 1) undef = cvs.getD i undef := by
          simp only [Array.getD_eq_getD_getElem?, Array.getElem?_append]
          simp
        rw [e1, List.getD_cons_succ]
        exact h5
    · refine ⟨by simp, fun p hp => ?_, fun p hp => ?_, fun q hq hq0 => ?_⟩
      · obtain ⟨b', h5, h6⟩ := blks_ok s cc.lent p hp
        exact ⟨b', hget1 h5, h6⟩
      · rcases List.mem_cons.1 hp with rfl | hp
        · exact ⟨.yld (some (ids, C)) 0, by show Heap.get s1.h y = _; simp [s1, Heap.get], .refl _⟩
        · obtain ⟨b', h5, h6⟩ := blks_ok s cc.take p hp
          exact ⟨b', hget1 h5, h6⟩
      · have hqy : q ≠ y := fun e => hq0 (by rw [e]; exact List.mem_cons_self ..)
        have hq1 : q ∈ hids h1' := by
          have : q ∈ y :: hids h1' := hq
          simpa [hqy] using this
        have hq2 : q ∉ hids (blks s.h cc.take) := fun h => hq0 (List.mem_cons_of_mem _ h)
        have := List.all_eq_true.1 hpre q hq1
        simp only [Bool.or_eq_true, List.contains_eq_mem, decide_eq_true_eq, Option.isNone_iff_eq_none] at this
        show Heap.get s1.h q = none
        simp [s1, Heap.get, Ne.symm hqy, this.resolve_left hq2]
    · rw [List.all_eq_true]
      intro r hr
      have := List.all_eq_true.1 hlent r hr
      rw [Bool.and_eq_true] at this ⊢
      refine ⟨?_, this.2⟩
      have hry : y ≠ r := fun e => hyln (e ▸ hr)
      simpa [Heap.get, hry] using this.1
    · rw [List.all_eq_true]
      intro q hq
      have : q ∈ y :: hids h1' := hq
      rcases List.mem_cons.1 this with rfl | h
      · rw [hyk]; simp
      · exact List.all_eq_true.1 hnw q h
    · -- behind the call
      obtain ⟨St2, g2, hW2, hT2, hK2⟩ := hsim
      have hyget2 : Heap.get (afterE s1 ⟨none, cc.r, [], blks s.h cc.lent, (y, .yld (some (ids, C)) 0) :: blks s.h cc.take, (y, .yld (some (ids, C)) k) :: h1', cc.nw⟩).h y = some (.yld (some (ids, C)) k) := by
        simp [afterE, Heap.get]
      obtain ⟨u, hu, l2, r2, hu2, hl2, hyo⟩ := hW2.ok y _ hyget2
      have hg2y : g2 y = some (.func (.yield l) #[] #[]) := by
        have := hK2.keep y (List.mem_cons_self ..)
        rw [this]; simp [z1]
      rw [hg2y] at hu; cases hu; cases hu2
      obtain ⟨i1, i2, i3, i4, i5, i5', i6, _⟩ := hyo
      have hbusy : r2.state ≠ .busy := by
        intro e
        match k, hk, i5, i6 with
        | 0, _, i5, _ => rw [(i5 rfl).1] at e; cases e
        | 1, hk, _, _ => exact hk rfl
        | j + 2, _, _, i6 => rw [(i6 j rfl).1] at e; cases e
      have hlo := hW2.ow y _ _ hyget2 hg2y l rfl
      have hgets : ∀ q b', s'.h.get q = some b' → ∃ b, Heap.get (afterE s1 ⟨none, cc.r, [], blks s.h cc.lent, (y, .yld (some (ids, C)) 0) :: blks s.h cc.take, (y, .yld (some (ids, C)) k) :: h1', cc.nw⟩).h q = some b ∧ q ≠ y ∧ b = b' := by
        intro q b' hb
        rw [hs'] at hb
        dsimp only at hb
        have hqy : q ≠ y := by
          rintro rfl
          rw [Heap.get_append, hyh1] at hb
          dsimp only at hb
          rw [get_drops, get_dels] at hb
          split at hb
          · cases hb
          · rw [hyh] at hb; cases hb
        refine ⟨b', ?_, hqy, rfl⟩
        show Heap.get (((y, Blk.yld (some (ids, C)) k) :: h1') ++ hdrops cc.nw (dels (hids ((y, .yld (some (ids, C)) 0) :: blks s.h cc.take)) s1.h)) q = some b'
        rw [Heap.get_append] at hb ⊢
        rw [get_drops, get_dels] at hb ⊢
        have e1 : Heap.get ((y, Blk.yld (some (ids, C)) k) :: h1') q = h1'.get q := by simp [Heap.get, Ne.symm hqy]
        have e2 : s1.h.get q = s.h.get q := by simp [s1, Heap.get, Ne.symm hqy]
        have e3 : (q ∈ hids ((y, Blk.yld (some (ids, C)) 0) :: blks s.h cc.take)) = (q ∈ hids (blks s.h cc.take)) := by
          show (q ∈ y :: hids (blks s.h cc.take)) = _
          simp [hqy]
        rw [e1, e2]
        simp only [e3]
        exact hb
      have hWf : WSim z1 St2 g2 s'.h (w2.putObj l (.loop { r2 with state := .exhausted })) := by
        refine WSim.off (hW2.less fun q b' hb => ?_) hlo.1 hlo.2 fun q b' v hb hv hq => ?_
        · obtain ⟨b, h5, _, rfl⟩ := hgets q b' hb
          exact ⟨b, h5, fun _ h => h⟩
        · obtain ⟨b, h5, h6, rfl⟩ := hgets q b' hb
          exact hW2.sep y q _ b _ v hyget2 h5 hg2y hv (Ne.symm h6) l rfl hq
      have hfin : Sim z s' a1 (w2.putObj l (.loop { r2 with state := .exhausted })) := by
        have hSt2 : ∀ q, St2 q → (w2.putObj l (.loop { r2 with state := .exhausted })).heap[q]? = w2.heap[q]? := fun q hq => World.putObj_heap_other (fun e => hlo.1 (e ▸ hq))
        have hs'n : s'.N = s.N := by rw [hs']
        have hs't : s'.t = tdrops cc.nw s.t := by rw [hs']
        have hs'b : s'.b = s.b := by rw [hs']
        refine ⟨St2, g2, ⟨hWf.frm, hWf.st0, hWf.st1, hWf.ow, hWf.ok, hWf.sep⟩, ?_, ?_⟩
        · rw [hs'n, hs't]
          exact ⟨hT2.1, hT2.2.1, fun d => (hT2.2.2 d).mono (fun _ h => h) hSt2⟩
        · rw [hs'b]
          obtain ⟨hk1, hk2, hk3, hk4⟩ := hK2.to (fun _ h => h) hSt2 (a' := a1) rfl (fun _ _ => rfl)
          refine ⟨fun r hr => ?_, hk2, hk3, hk4⟩
          have h5 : g2 r = z1.g r := hk1 r (List.mem_cons_of_mem _ hr)
          have h6 : r ≠ y := fun e => hyb (e ▸ hr)
          rw [h5]; simp [z1, h6]
      have hrun := run_endLoop (P := P) hl2 hbusy
      obtain ⟨wx, hwx⟩ : ∃ wx, wx = w2.putObj l (.loop { r2 with state := .exhausted }) := ⟨_, rfl⟩
      rw [← hwx] at hrun hfin
      match k, hk, i5, i6 with
      | 0, _, i5, _ =>
        rw [(i5 rfl).2] at hrun
        exact ⟨none, wx, hrun, s', h0 rfl, hfin⟩
      | 1, hk, _, _ => exact absurd rfl hk
      | j + 2, _, _, i6 =>
        obtain ⟨c, hc, hA⟩ := hj j rfl
        have e : C.jumps[j]? = some c := hc
        rw [(i6 j rfl).2, e] at hrun
        exact ⟨some c, wx, hrun, hA z a1 _ hfin⟩

end Go.Abs
namespace Go.Abs
open Go Go.RowKit

theorem WSim.below {z : Start} (hW : WSim z z.St z.g [] z.w) {w' : World} (h : Below z.w.heap.size z.w w') : WSim z z.St z.g [] w' :=
  ⟨⟨h.os, h.tape, h.output, h.size, fun k hk _ => h.block k hk⟩, fun _ h => h, fun k hk => ⟨Nat.lt_of_lt_of_le (hW.st1 k hk).1 h.size, .inl hk⟩, fun r b v hb => by simp [Heap.get] at hb, fun r b hb => by simp [Heap.get] at hb, fun r r' b b' v v' hb => by simp [Heap.get] at hb⟩

theorem str_of {s : ByteArray} {l : List UInt8} (h : s.data.toList = l) : s = ⟨l.toArray⟩ := by
  subst h; cases s; simp

def joinP (l : List (List UInt8)) (sep : List UInt8) : Option (List UInt8) :=
  if (Lib.join l sep).length ≤ 140737488355328 ∧ l.length ≤ 140737488355328 then some (Lib.join l sep) else none

theorem join_spec {P : Program} {f : FuncId} (h0 : ∀ (a : Option Addr) (c : Nat) (sep : ByteArray) (w : World), Calls P f #[.slice a 0 c, .string sep] w fun e w' => e = .returned (.string ⟨#[]⟩) ∧ w' = w)
    (h1 : ∀ (bk o c : Nat) (xs : List ByteArray) (sep : ByteArray) (w : World), (∀ (j : Nat) x, xs[j]? = some x → w.cell? ⟨bk, o + j, none⟩ = some (.string x)) → bk < w.heap.size → xs.length ≤ 140737488355328 → xs.length ≤ c →
      (Lib.join (xs.map (·.data.toList)) sep.data.toList).length ≤ 140737488355328 → Calls P f #[.slice (some ⟨bk, o, none⟩) xs.length c, .string sep] w fun e w' => e = .returned (.string ⟨(Lib.join (xs.map (·.data.toList)) sep.data.toList).toArray⟩) ∧ Below w.heap.size w w')
    (l : List (List UInt8)) (sep r : List UInt8) (h : joinP l sep = some r) : Spec1 P f [] [] [] [.arr 1 l.length (encF (fun x => [.str x]) [] l), .str sep] (.str r) [] := by
  unfold joinP at h
  split at h
  case isFalse => cases h
  rename_i hc
  cases h
  intro z vals hW hl hr _
  have e0 := hr 0 (by simp)
  have e1 := hr 1 (by simp)
  simp only [List.getD_cons_zero, List.getD_cons_succ] at e0 e1
  obtain ⟨s, hs1, hs2⟩ := e1.str_inv
  have hv : vals = #[vals.getD 0 undef, vals.getD 1 undef] := by
    apply Array.ext
    · simpa using hl
    · intro i h1 h2
      have : i = 0 ∨ i = 1 := by simp at h2; omega
      rcases this with rfl | rfl <;> simp [h1]
  rw [hv, hs1]
  generalize vals.getD 0 undef = u at e0
  have nilcase : l.length = 0 → ∀ a c, u = .slice a 0 c → Calls P f #[u, .string s] z.w (fun e w' => ∃ x r h1 St' g', e = .returned x ∧ (r = .str (Lib.join l sep) ∧ h1 = ([] : Heap)) ∧ WSim z St' g' h1 w' ∧ Rel St' w' g' r x ∧ (∀ k, k ∈ ([] : List Nat) → g' k = z.g k)) := by
    intro hn a c hu
    subst hu
    refine (h0 a c s z.w).mono ?_
    rintro e w' ⟨rfl, rfl⟩
    refine ⟨_, _, _, z.St, z.g, rfl, ⟨rfl, rfl⟩, hW, .str _ _ _ ?_, by simp⟩
    rw [List.length_eq_zero_iff.1 hn]
    rfl
  generalize hn : l.length = n at e0
  cases e0 with
  | arr0 => exact nilcase hn _ _ rfl
  | arr _ _ _ _ b o cap x hcap hmax hS hcl h1c hrr =>
    by_cases hn0 : n = 0
    · subst hn0; exact nilcase hn _ _ rfl
    have hb : z.St b := hS (by omega) (by decide)
    have hlen : (l.map (fun (q : List UInt8) => (⟨q.toArray⟩ : ByteArray))).length = n := by simpa using hn
    have hmap : (l.map (fun (q : List UInt8) => (⟨q.toArray⟩ : ByteArray))).map (fun (s : ByteArray) => s.data.toList) = l := by simp [Function.comp_def]
    have := h1 b o cap (l.map fun q => ⟨q.toArray⟩) s z.w (fun j y hj => ?_) (hW.st1 b hb).1 (by rw [hlen]; omega) (by rw [hlen]; exact hcap) (by rw [hmap, hs2]; exact hc.1)
    · rw [hlen, hmap, hs2] at this
      refine this.mono ?_
      rintro e w' ⟨rfl, hbl⟩
      exact ⟨_, _, _, z.St, z.g, rfl, ⟨rfl, rfl⟩, hW.below hbl, .str _ _ _ (by simp), by simp⟩
    · have hjn : j < n := by have := (List.getElem?_eq_some_iff.1 hj).1; omega
      have h5 := hcl j 0 hjn (by decide)
      have h6 := hrr j 0 hjn (by decide)
      simp only [encF, List.getD_cons_zero] at h6
      obtain ⟨s2, hs3, hs4⟩ := h6.str_inv
      rw [hs3, str_of hs4] at h5
      simp only [Nat.mul_one, Nat.add_zero] at h5
      rw [h5]
      rw [List.getElem?_map] at hj
      obtain ⟨q, hq, rfl⟩ := Option.map_eq_some_iff.1 hj
      simp [List.getD_eq_getElem?_getD, hq]

end Go.Abs
namespace Go.Abs
open Go
theorem AWp.sq {P : Program} (W : List Nat) {Q : Exit → S → Prop} {id : Nat} {draw : Bool} {y : Code} (calls : List (Nat × CC)) (ds rs : List Nat) {l : List Oper} {s : S} (s' : S) (φ : Prop) (hm : P.follows .mixedOrders = true)
    (h : Abs.regC P W draw calls ds rs l s = some (s', φ)) (hφ : φ) (hQ : AWp P y Q s') : AWp P (.seq (.region id l.toArray draw) y) Q s :=
  AWp.seq (AWp.regC W calls ds rs s' φ hm h hφ (thenQ_normal hQ))
theorem an1 {a : Prop} (ha : a) : a ∧ True := ⟨ha, trivial⟩
theorem an2 {a b : Prop} (ha : a) (hb : b) : a ∧ b ∧ True := ⟨ha, hb, trivial⟩
theorem an3 {a b c : Prop} (ha : a) (hb : b) (hc : c) : a ∧ b ∧ c ∧ True := ⟨ha, hb, hc, trivial⟩
theorem an4 {a b c d : Prop} (ha : a) (hb : b) (hc : c) (hd : d) : a ∧ b ∧ c ∧ d ∧ True := ⟨ha, hb, hc, hd, trivial⟩
theorem an5 {a b c d e : Prop} (ha : a) (hb : b) (hc : c) (hd : d) (he : e) : a ∧ b ∧ c ∧ d ∧ e ∧ True := ⟨ha, hb, hc, hd, he, trivial⟩
theorem an6 {a b c d e f : Prop} (ha : a) (hb : b) (hc : c) (hd : d) (he : e) (hf : f) : a ∧ b ∧ c ∧ d ∧ e ∧ f ∧ True := ⟨ha, hb, hc, hd, he, hf, trivial⟩
/-! ### Result boxes: read at the return, then gone -/
def dropH (ids : List Nat) (h : Heap) : Heap := h.filter fun p => !(ids.contains p.1)
theorem dropH_get (ids : List Nat) : ∀ (h : Heap) (r : Nat) (b : Blk), (dropH ids h).get r = some b → h.get r = some b
  | [], r, b, hb => by simp [dropH, Heap.get] at hb
  | (k, c) :: h, r, b, hb => by
    unfold dropH at hb
    rw [List.filter_cons] at hb
    split at hb
    · simp only [Heap.get] at hb ⊢
      split at hb
      · rename_i e; rw [if_pos e]; exact hb
      · rename_i e; rw [if_neg e]; exact dropH_get ids h r b hb
    · rename_i hk
      have hr := dropH_get ids h r b hb
      simp only [Heap.get]
      split
      · rename_i e
        subst e
        -- the number is dropped everywhere
        exfalso
        have : ∀ (h : Heap) (b : Blk), ids.contains k = true → (dropH ids h).get k = some b → False := by
          intro h
          induction h with
          | nil => intro b _ hb; simp [dropH, Heap.get] at hb
          | cons p h ih =>
            intro b hc hb
            unfold dropH at hb
            rw [List.filter_cons] at hb
            split at hb
            · rename_i hp
              simp only [Heap.get] at hb
              split at hb
              · rename_i e; rw [e, hc] at hp; cases hp
              · exact ih b hc hb
            · exact ih b hc hb
        exact this h b (by simpa using hk) hb
      · exact hr
theorem WSim.drop {z : Start} {St : Nat → Prop} {g : Gh} {h : Heap} {w : World} (hW : WSim z St g h w) (ids : List Nat) : WSim z St g (dropH ids h) w :=
  ⟨hW.frm, hW.st0, hW.st1, fun r b v hb => hW.ow r b v (dropH_get ids h r b hb), fun r b hb => hW.ok r b (dropH_get ids h r b hb),
   fun r r' b b' v v' hb hb' => hW.sep r r' b b' v v' (dropH_get ids h r b hb) (dropH_get ids h r' b' hb')⟩
theorem Spec1.bodyD {P : Program} {f : FuncId} {fn : Func} {c : Code} {N : Nat} {h0 : Heap} {args : List V} {r : V} {h1 : Heap} (ids : List Nat) (o : Nat) (gs : List (Nat × V)) (bk : List Nat) (hf : P.funcs[f]? = some fn) (hb : fn.body = some c) (hN : fn.ntmps = N) (hle : Nat.ble args.length N = true) (hG : Nat.ble N 1000000 = true)
    (h : AWp P c (bodyQ P fn bk (fun v h => v = r ∧ dropH ids h = h1)) ⟨N, initT 0 args ++ globT gs, h0, bk, o⟩) : Spec1 P f gs bk h0 args r h1 := by
  have hs := Spec.body o gs bk hf hb hN (Nat.le_of_ble_eq_true hle) (Nat.le_of_ble_eq_true hG) h
  intro z vals h1' h2 h3 h4
  refine (hs z vals h1' h2 h3 h4).mono ?_
  rintro e w' ⟨x, r', hh, St', g', he, ⟨rfl, rfl⟩, hW, hrel, hk⟩
  exact ⟨x, r', _, St', g', he, ⟨rfl, rfl⟩, hW.drop ids, hrel, hk⟩
end Go.Abs
namespace Go.Abs
open Go
theorem VLes.same : ∀ l : List V, VLes l l
  | [] => trivial
  | v :: l => ⟨.refl v, VLes.same l⟩
theorem lendV_none (l : List V) : l.map (lendV [] []) = l := by
  induction l with
  | nil => rfl
  | cons v l ih => rw [List.map_cons, ih]; rfl
theorem ac6 {a b c d e f g : Prop} (ha : a) (hb : b) (hc : c) (hd : d) (he : e) (hf : f) (hg : g) : a ∧ b ∧ c ∧ d ∧ e ∧ f ∧ g := ⟨ha, hb, hc, hd, he, hf, hg⟩
section
variable {P : Program} {c : Bool} {fid : FuncId} {gs : List (Nat × V)} {bk : List Nat} {h0 : Heap} {a : List V} {r : V} {h1 : Heap}
theorem cpC (h : c = true → Spec1 P fid gs bk h0 a r h1) : callP P c fid gs bk h0 [] [] a a r h1 :=
  ⟨h, fun _ => by rw [lendV_none]; exact .same a, .inl rfl⟩
theorem cpT (h : Spec1 P fid gs bk h0 a r h1) : callP P true fid gs bk h0 [] [] a a r h1 := cpC fun _ => h
theorem cpL (hr : Heap) (lent : List Nat) (args : List V) (h : c = true → Spec1 P fid gs bk h0 a r h1) (hv : c = true → VLes (args.map (lendV hr lent)) a) (hf : lent = [] ∨ (r.flat = true ∧ Heap.Flat h1)) :
    callP P c fid gs bk h0 hr lent args a r h1 := ⟨h, hv, hf⟩
end
end Go.Abs
namespace Go.Abs
open Go Go.Proofs
set_option maxHeartbeats 4000000
theorem Tryz_mixed : Tryz.prog.follows .mixedOrders = true := by kernel_rfl
def T0 : List Nat := [0, 1, 28, 2, 29, 14, 24, 3, 30, 22, 20, 15, 25, 17, 4, 8, 31, 27, 13, 23, 21, 19, 16, 7, 26, 12, 18, 6, 11, 5, 10, 9]
def T0F : Nat → Nat → V := fun _ j => .int .u8 ((T0.getD j 0 : Nat) : Int)
def T7 : List Nat := [0, 1, 56, 2, 57, 49, 28, 3, 61, 58, 42, 50, 38, 29, 17, 4, 62, 47, 59, 36, 45, 43, 51, 22, 53, 39, 33, 30, 24, 18, 12, 5, 63, 55, 48, 27, 60, 41, 37, 16, 46, 35, 44, 21, 52, 32, 23, 11, 54, 26, 40, 15, 34, 20, 31, 10, 25, 14, 19, 9, 13, 8, 7, 6]
def T6 : List Nat := [1, 10, 100, 1000, 10000, 100000, 1000000, 10000000, 100000000, 1000000000, 10000000000, 100000000000, 1000000000000, 10000000000000, 100000000000000, 1000000000000000, 10000000000000000, 100000000000000000, 1000000000000000000, 10000000000000000000]
def T6F : Nat → Nat → V := fun _ j => .int .u64 ((T6.getD j 0 : Nat) : Int)
def cs0 : List UInt8 := [0, 1, 1, 2, 1, 2, 2, 3, 1, 2, 2, 3, 2, 3, 3, 4, 1, 2, 2, 3, 2, 3, 3, 4, 2, 3, 3, 4, 3, 4, 4, 5, 1, 2, 2, 3, 2, 3, 3, 4, 2, 3, 3, 4, 3, 4, 4, 5, 2, 3, 3, 4, 3, 4, 4, 5, 3, 4, 4, 5, 4, 5, 5, 6, 1, 2, 2, 3, 2, 3, 3, 4, 2, 3, 3, 4, 3, 4, 4, 5, 2, 3, 3, 4, 3, 4, 4, 5, 3, 4, 4, 5, 4, 5, 5, 6, 2, 3, 3, 4, 3, 4, 4, 5, 3, 4, 4, 5, 4, 5, 5, 6, 3, 4, 4, 5, 4, 5, 5, 6, 4, 5, 5, 6, 5, 6, 6, 7, 1, 2, 2, 3, 2, 3, 3, 4, 2, 3, 3, 4, 3, 4, 4, 5, 2, 3, 3, 4, 3, 4, 4, 5, 3, 4, 4, 5, 4, 5, 5, 6, 2, 3, 3, 4, 3, 4, 4, 5, 3, 4, 4, 5, 4, 5, 5, 6, 3, 4, 4, 5, 4, 5, 5, 6, 4, 5, 5, 6, 5, 6, 6, 7, 2, 3, 3, 4, 3, 4, 4, 5, 3, 4, 4, 5, 4, 5, 5, 6, 3, 4, 4, 5, 4, 5, 5, 6, 4, 5, 5, 6, 5, 6, 6, 7, 3, 4, 4, 5, 4, 5, 5, 6, 4, 5, 5, 6, 5, 6, 6, 7, 4, 5, 5, 6, 5, 6, 6, 7, 5, 6, 6, 7, 6, 7, 7, 8]
def eI (x : Int) : List V := [.int .i64 x]
abbrev q1aI (l : List (Int)) : V := vL 1 eI 0 l
abbrev q1w16 (i : Int) : BitVec 16 := BitVec.ofInt 16 i
theorem q1rq {Q : Exit → S → Prop} {id : Nat} {draw : Bool} {y : Code} (W : List Nat) (calls : List (Nat × CC)) (ds rs : List Nat) {l : List Oper} {s : S} (s' : S) {φ : Prop} (hφ : φ) (hQ : AWp Tryz.prog y Q s') (h : Abs.regC Tryz.prog W draw calls ds rs l s = some (s', φ) := by kernel_rfl) : AWp Tryz.prog (.seq (.region id l.toArray draw) y) Q s := AWp.sq W calls ds rs s' φ Tryz_mixed h hφ hQ
theorem q1rr {Q : Exit → S → Prop} {id : Nat} {draw : Bool} (W : List Nat) (calls : List (Nat × CC)) (ds rs : List Nat) {l : List Oper} {s : S} (s' : S) {φ : Prop} (hφ : φ) (hQ : Q .normal s') (h : Abs.regC Tryz.prog W draw calls ds rs l s = some (s', φ) := by kernel_rfl) : AWp Tryz.prog (.region id l.toArray draw) Q s := AWp.regC W calls ds rs s' φ Tryz_mixed h hφ hQ
def f116 (x1 : BitVec 16) : Option Int :=
  chk ((((x1 >>> 8).toNat : Nat) : Int) < ((cs0.length : Nat) : Int)) <|
  chk ((((x1 &&& (BitVec.ofInt 16 255)).toNat : Nat) : Int) < ((cs0.length : Nat) : Int)) <|
  chk (((((cs0.getD ((x1 >>> 8).toNat) 0).toNat : Nat) : Int) + (((cs0.getD ((x1 &&& (BitVec.ofInt 16 255)).toNat) 0).toNat : Nat) : Int)) ≤ 255) <|
  chk (((((cs0.getD ((x1 >>> 8).toNat) 0).toNat + (cs0.getD ((x1 &&& (BitVec.ofInt 16 255)).toNat) 0).toNat) : Nat) : Int) ≤ 9223372036854775807) <|
  some ((((cs0.getD ((x1 >>> 8).toNat) 0).toNat + (cs0.getD ((x1 &&& (BitVec.ofInt 16 255)).toNat) 0).toNat) : Nat) : Int)
set_option maxRecDepth 100000 in
theorem f116_ok  (x1 : BitVec 16) (r : Int) (h : f116 x1 = some r)  : Spec1 Tryz.prog 116 [] [] [] [.b16 x1] (.int .i64 r) [] := by
  unfold f116 at h
  refine Spec1.body 0 _ _ Tryz.func116 rfl Tryz.ntmps116 rfl rfl ?_
  refine q1rq [] [] [0] [] ⟨11, [(0, .b16 x1)], [], [], 0⟩ trivial ?_
  refine AWp.seq ?_
  have ob0 : 0 ≤ (8 : Int) := by first | decide | omega | simp | (intro h; cases h)
  obtain ⟨ob1p, h⟩ := chk_some h
  have ob1 : 0 ≤ (((x1 >>> 8).toNat : Nat) : Int) ∧ (((x1 >>> 8).toNat : Nat) : Int) < ((cs0.length : Nat) : Int) := ⟨by omega, ob1p⟩
  obtain ⟨ob2p, h⟩ := chk_some h
  have ob2 : 0 ≤ (((x1 &&& (q1w16 255)).toNat : Nat) : Int) ∧ (((x1 &&& (q1w16 255)).toNat : Nat) : Int) < ((cs0.length : Nat) : Int) := ⟨by omega, ob2p⟩
  obtain ⟨ob3p, h⟩ := chk_some h
  have ob3 : 0 ≤ ((((cs0.getD ((x1 >>> 8).toNat) 0).toNat : Nat) : Int) + (((cs0.getD ((x1 &&& (q1w16 255)).toNat) 0).toNat : Nat) : Int)) ∧ ((((cs0.getD ((x1 >>> 8).toNat) 0).toNat : Nat) : Int) + (((cs0.getD ((x1 &&& (q1w16 255)).toNat) 0).toNat : Nat) : Int)) ≤ 255 := ⟨by omega, ob3p⟩
  obtain ⟨ob4p, h⟩ := chk_some h
  have ob4 : -9223372036854775808 ≤ ((((cs0.getD ((x1 >>> 8).toNat) 0).toNat + (cs0.getD ((x1 &&& (q1w16 255)).toNat) 0).toNat) : Nat) : Int) ∧ ((((cs0.getD ((x1 >>> 8).toNat) 0).toNat + (cs0.getD ((x1 &&& (q1w16 255)).toNat) 0).toNat) : Nat) : Int) ≤ 9223372036854775807 := ⟨by omega, ob4p⟩
  refine q1rr [] [] [2] [] ⟨11, [(2, .int .i64 ((((cs0.getD ((x1 >>> 8).toNat) 0).toNat + (cs0.getD ((x1 &&& (q1w16 255)).toNat) 0).toNat) : Nat) : Int))], [], [], 0⟩ (an5 ob0 ob1 ob2 ob3 ob4) ?_
  refine thenQ_normal ?_
  have hret := Option.some.inj h
  subst hret
  refine AWp.le (Le.mk (s' := ⟨11, [(2, .int .i64 ((((cs0.getD ((x1 >>> 8).toNat) 0).toNat + (cs0.getD ((x1 &&& (q1w16 255)).toNat) 0).toNat) : Nat) : Int))], [], [], 0⟩) rfl rfl ⟨.refl _, trivial⟩ trivial) ?_
  refine AWp.ret ?_
  exact bodyQ_ret _ rfl ⟨rfl, rfl⟩ rfl
def f91 (x1 : BitVec 16) : Option Int :=
  (f116 x1).bind fun (r2 : Int) =>
  some r2
set_option maxRecDepth 100000 in
theorem f91_ok  (x1 : BitVec 16) (r : Int) (h : f91 x1 = some r)  : Spec1 Tryz.prog 91 [] [] [] [.b16 x1] (.int .i64 r) [] := by
  unfold f91 at h
  refine Spec1.body 0 _ _ Tryz.func91 rfl Tryz.ntmps91 rfl rfl ?_
  refine q1rq [] [] [0] [] ⟨5, [(0, .b16 x1)], [], [], 0⟩ trivial ?_
  refine AWp.seq ?_
  obtain ⟨r2, hr2, h⟩ := bind_ok h
  refine q1rr [] [(1, ⟨[.b16 x1], [], [], [], .int .i64 r2, [], [], []⟩)] [2] [] ⟨5, [(2, .int .i64 r2)], [], [], 0⟩ (an1 (cpT (f116_ok _ _ hr2))) ?_
  refine thenQ_normal ?_
  have hret := Option.some.inj h
  subst hret
  refine AWp.le (Le.mk (s' := ⟨5, [(2, .int .i64 r2)], [], [], 0⟩) rfl rfl ⟨.refl _, trivial⟩ trivial) ?_
  refine AWp.ret ?_
  exact bodyQ_ret _ rfl ⟨rfl, rfl⟩ rfl
def f115 (x1 : Int) : Option Bool :=
  some (x1 != x1)
set_option maxRecDepth 100000 in
theorem f115_ok  (x1 : Int) (r : Bool) (h : f115 x1 = some r)  : Spec1 Tryz.prog 115 [] [] [] [.int .i64 x1] (.bool r) [] := by
  unfold f115 at h
  refine Spec1.body 0 _ _ Tryz.func115 rfl Tryz.ntmps115 rfl rfl ?_
  refine q1rq [] [] [0] [] ⟨6, [(0, .int .i64 x1)], [], [], 0⟩ trivial ?_
  refine q1rq [] [] [2] [] ⟨6, [(2, .bool (x1 != x1))], [], [], 0⟩ trivial ?_
  have hret := Option.some.inj h
  subst hret
  refine AWp.le (Le.mk (s' := ⟨6, [(2, .bool (x1 != x1))], [], [], 0⟩) rfl rfl ⟨.refl _, trivial⟩ trivial) ?_
  refine AWp.ret ?_
  exact bodyQ_ret _ rfl ⟨rfl, rfl⟩ rfl
def f90 (x1 : Int) (x2 : Int) : Option Int :=
  (f115 x1).bind fun (r3 : Bool) =>
  (f115 x2).bind fun (r4 : Bool) =>
  if r3 then (
  if r4 then (
  some (0 : Int)
  ) else (
  some (-1 : Int)
  )
  ) else (
  if r4 then (
  some (1 : Int)
  ) else (
  if (decide (x1 < x2)) then (
  some (-1 : Int)
  ) else (
  if (decide (x1 > x2)) then (
  some (1 : Int)
  ) else (
  some (0 : Int)
  )
  )
  )
  )
set_option maxRecDepth 100000 in
theorem f90_ok  (x1 : Int) (x2 : Int) (r : Int) (h : f90 x1 x2 = some r)  : Spec1 Tryz.prog 90 [] [] [] [.int .i64 x1, .int .i64 x2] (.int .i64 r) [] := by
  unfold f90 at h
  refine Spec1.body 0 _ _ Tryz.func90 rfl Tryz.ntmps90 rfl rfl ?_
  refine q1rq [] [] [0, 1] [] ⟨20, [(0, .int .i64 x1), (1, .int .i64 x2)], [], [], 0⟩ trivial ?_
  refine AWp.seq ?_
  obtain ⟨r3, hr3, h⟩ := bind_ok h
  refine q1rr [] [(1, ⟨[.int .i64 x1], [], [], [], .bool r3, [], [], []⟩)] [0, 1, 5] [] ⟨20, [(0, .int .i64 x1), (1, .int .i64 x2), (5, .bool r3)], [], [], 0⟩ (an1 (cpT (f115_ok _ _ hr3))) ?_
  refine thenQ_normal ?_
  refine AWp.seq ?_
  obtain ⟨r4, hr4, h⟩ := bind_ok h
  refine q1rr [] [(1, ⟨[.int .i64 x2], [], [], [], .bool r4, [], [], []⟩)] [0, 1, 5, 6] [] ⟨20, [(0, .int .i64 x1), (1, .int .i64 x2), (5, .bool r3), (6, .bool r4)], [], [], 0⟩ (an1 (cpT (f115_ok _ _ hr4))) ?_
  refine thenQ_normal ?_
  refine AWp.seq ?_
  refine q1rq [] [] [0, 1, 6, 11] [] ⟨20, [(0, .int .i64 x1), (1, .int .i64 x2), (6, .bool r4), (11, .bool r3)], [], [], 0⟩ trivial ?_
  refine AWp.cond (b := r3) (by kernel_rfl) (fun hc1 => ?_) (fun hc1 => ?_)
  ·
    replace h := ite_tb hc1 h
    refine AWp.seq ?_
    refine q1rq [] [] [12] [] ⟨20, [(12, .bool r4)], [], [], 0⟩ trivial ?_
    refine AWp.cond (b := r4) (by kernel_rfl) (fun hc2 => ?_) (fun hc2 => ?_)
    ·
      replace h := ite_tb hc2 h
      refine q1rq [] [] [4] [] ⟨20, [(4, .int .i64 (0 : Int))], [], [], 0⟩ trivial ?_
      have hret := Option.some.inj h
      subst hret
      refine AWp.le (Le.mk (s' := ⟨20, [(4, .int .i64 (0 : Int))], [], [], 0⟩) rfl rfl ⟨.refl _, trivial⟩ trivial) ?_
      refine AWp.ret ?_
      refine thenQ_ret ?_
      refine thenQ_ret ?_
      exact bodyQ_ret _ rfl ⟨rfl, rfl⟩ rfl
    ·
      replace h := ite_fb hc2 h
      refine AWp.skip ?_
      refine thenQ_normal ?_
      refine q1rq [] [] [4] [] ⟨20, [(4, .int .i64 (-1 : Int))], [], [], 0⟩ trivial ?_
      have hret := Option.some.inj h
      subst hret
      refine AWp.le (Le.mk (s' := ⟨20, [(4, .int .i64 (-1 : Int))], [], [], 0⟩) rfl rfl ⟨.refl _, trivial⟩ trivial) ?_
      refine AWp.ret ?_
      refine thenQ_ret ?_
      exact bodyQ_ret _ rfl ⟨rfl, rfl⟩ rfl
  ·
    replace h := ite_fb hc1 h
    refine AWp.skip ?_
    refine thenQ_normal ?_
    refine AWp.seq ?_
    refine q1rq [] [] [0, 1, 13] [] ⟨20, [(0, .int .i64 x1), (1, .int .i64 x2), (13, .bool r4)], [], [], 0⟩ trivial ?_
    refine AWp.cond (b := r4) (by kernel_rfl) (fun hc3 => ?_) (fun hc3 => ?_)
    ·
      replace h := ite_tb hc3 h
      refine q1rq [] [] [4] [] ⟨20, [(4, .int .i64 (1 : Int))], [], [], 0⟩ trivial ?_
      have hret := Option.some.inj h
      subst hret
      refine AWp.le (Le.mk (s' := ⟨20, [(4, .int .i64 (1 : Int))], [], [], 0⟩) rfl rfl ⟨.refl _, trivial⟩ trivial) ?_
      refine AWp.ret ?_
      refine thenQ_ret ?_
      exact bodyQ_ret _ rfl ⟨rfl, rfl⟩ rfl
    ·
      replace h := ite_fb hc3 h
      refine AWp.skip ?_
      refine thenQ_normal ?_
      refine AWp.seq ?_
      refine q1rq [] [] [0, 1, 16] [] ⟨20, [(0, .int .i64 x1), (1, .int .i64 x2), (16, .bool (decide (x1 < x2)))], [], [], 0⟩ trivial ?_
      refine AWp.cond (b := (decide (x1 < x2))) (by kernel_rfl) (fun hc4 => ?_) (fun hc4 => ?_)
      ·
        replace h := ite_tb hc4 h
        refine q1rq [] [] [4] [] ⟨20, [(4, .int .i64 (-1 : Int))], [], [], 0⟩ trivial ?_
        have hret := Option.some.inj h
        subst hret
        refine AWp.le (Le.mk (s' := ⟨20, [(4, .int .i64 (-1 : Int))], [], [], 0⟩) rfl rfl ⟨.refl _, trivial⟩ trivial) ?_
        refine AWp.ret ?_
        refine thenQ_ret ?_
        exact bodyQ_ret _ rfl ⟨rfl, rfl⟩ rfl
      ·
        replace h := ite_fb hc4 h
        refine AWp.skip ?_
        refine thenQ_normal ?_
        refine AWp.seq ?_
        refine q1rq [] [] [19] [] ⟨20, [(19, .bool (decide (x1 > x2)))], [], [], 0⟩ trivial ?_
        refine AWp.cond (b := (decide (x1 > x2))) (by kernel_rfl) (fun hc5 => ?_) (fun hc5 => ?_)
        ·
          replace h := ite_tb hc5 h
          refine q1rq [] [] [4] [] ⟨20, [(4, .int .i64 (1 : Int))], [], [], 0⟩ trivial ?_
          have hret := Option.some.inj h
          subst hret
          refine AWp.le (Le.mk (s' := ⟨20, [(4, .int .i64 (1 : Int))], [], [], 0⟩) rfl rfl ⟨.refl _, trivial⟩ trivial) ?_
          refine AWp.ret ?_
          refine thenQ_ret ?_
          exact bodyQ_ret _ rfl ⟨rfl, rfl⟩ rfl
        ·
          replace h := ite_fb hc5 h
          refine AWp.skip ?_
          refine thenQ_normal ?_
          refine q1rq [] [] [4] [] ⟨20, [(4, .int .i64 (0 : Int))], [], [], 0⟩ trivial ?_
          have hret := Option.some.inj h
          subst hret
          refine AWp.le (Le.mk (s' := ⟨20, [(4, .int .i64 (0 : Int))], [], [], 0⟩) rfl rfl ⟨.refl _, trivial⟩ trivial) ?_
          refine AWp.ret ?_
          exact bodyQ_ret _ rfl ⟨rfl, rfl⟩ rfl
def f117 (x1 : BitVec 16) : Option Bool :=
  some (!(x1 == x1))
set_option maxRecDepth 100000 in
theorem f117_ok  (x1 : BitVec 16) (r : Bool) (h : f117 x1 = some r)  : Spec1 Tryz.prog 117 [] [] [] [.b16 x1] (.bool r) [] := by
  unfold f117 at h
  refine Spec1.body 0 _ _ Tryz.func117 rfl Tryz.ntmps117 rfl rfl ?_
  refine q1rq [] [] [0] [] ⟨6, [(0, .b16 x1)], [], [], 0⟩ trivial ?_
  refine q1rq [] [] [2] [] ⟨6, [(2, .bool (!(x1 == x1)))], [], [], 0⟩ trivial ?_
  have hret := Option.some.inj h
  subst hret
  refine AWp.le (Le.mk (s' := ⟨6, [(2, .bool (!(x1 == x1)))], [], [], 0⟩) rfl rfl ⟨.refl _, trivial⟩ trivial) ?_
  refine AWp.ret ?_
  exact bodyQ_ret _ rfl ⟨rfl, rfl⟩ rfl
def f92 (x1 : BitVec 16) (x2 : BitVec 16) : Option Int :=
  (f117 x1).bind fun (r3 : Bool) =>
  (f117 x2).bind fun (r4 : Bool) =>
  if r3 then (
  if r4 then (
  some (0 : Int)
  ) else (
  some (-1 : Int)
  )
  ) else (
  if r4 then (
  some (1 : Int)
  ) else (
  if (decide (x1.toNat < x2.toNat)) then (
  some (-1 : Int)
  ) else (
  if (decide (x1.toNat > x2.toNat)) then (
  some (1 : Int)
  ) else (
  some (0 : Int)
  )
  )
  )
  )
set_option maxRecDepth 100000 in
theorem f92_ok  (x1 : BitVec 16) (x2 : BitVec 16) (r : Int) (h : f92 x1 x2 = some r)  : Spec1 Tryz.prog 92 [] [] [] [.b16 x1, .b16 x2] (.int .i64 r) [] := by
  unfold f92 at h
  refine Spec1.body 0 _ _ Tryz.func92 rfl Tryz.ntmps92 rfl rfl ?_
  refine q1rq [] [] [0, 1] [] ⟨20, [(0, .b16 x1), (1, .b16 x2)], [], [], 0⟩ trivial ?_
  refine AWp.seq ?_
  obtain ⟨r3, hr3, h⟩ := bind_ok h
  refine q1rr [] [(1, ⟨[.b16 x1], [], [], [], .bool r3, [], [], []⟩)] [0, 1, 5] [] ⟨20, [(0, .b16 x1), (1, .b16 x2), (5, .bool r3)], [], [], 0⟩ (an1 (cpT (f117_ok _ _ hr3))) ?_
  refine thenQ_normal ?_
  refine AWp.seq ?_
  obtain ⟨r4, hr4, h⟩ := bind_ok h
  refine q1rr [] [(1, ⟨[.b16 x2], [], [], [], .bool r4, [], [], []⟩)] [0, 1, 5, 6] [] ⟨20, [(0, .b16 x1), (1, .b16 x2), (5, .bool r3), (6, .bool r4)], [], [], 0⟩ (an1 (cpT (f117_ok _ _ hr4))) ?_
  refine thenQ_normal ?_
  refine AWp.seq ?_
  refine q1rq [] [] [0, 1, 6, 11] [] ⟨20, [(0, .b16 x1), (1, .b16 x2), (6, .bool r4), (11, .bool r3)], [], [], 0⟩ trivial ?_
  refine AWp.cond (b := r3) (by kernel_rfl) (fun hc1 => ?_) (fun hc1 => ?_)
  ·
    replace h := ite_tb hc1 h
    refine AWp.seq ?_
    refine q1rq [] [] [12] [] ⟨20, [(12, .bool r4)], [], [], 0⟩ trivial ?_
    refine AWp.cond (b := r4) (by kernel_rfl) (fun hc2 => ?_) (fun hc2 => ?_)
    ·
      replace h := ite_tb hc2 h
      refine q1rq [] [] [4] [] ⟨20, [(4, .int .i64 (0 : Int))], [], [], 0⟩ trivial ?_
      have hret := Option.some.inj h
      subst hret
      refine AWp.le (Le.mk (s' := ⟨20, [(4, .int .i64 (0 : Int))], [], [], 0⟩) rfl rfl ⟨.refl _, trivial⟩ trivial) ?_
      refine AWp.ret ?_
      refine thenQ_ret ?_
      refine thenQ_ret ?_
      exact bodyQ_ret _ rfl ⟨rfl, rfl⟩ rfl
    ·
      replace h := ite_fb hc2 h
      refine AWp.skip ?_
      refine thenQ_normal ?_
      refine q1rq [] [] [4] [] ⟨20, [(4, .int .i64 (-1 : Int))], [], [], 0⟩ trivial ?_
      have hret := Option.some.inj h
      subst hret
      refine AWp.le (Le.mk (s' := ⟨20, [(4, .int .i64 (-1 : Int))], [], [], 0⟩) rfl rfl ⟨.refl _, trivial⟩ trivial) ?_
      refine AWp.ret ?_
      refine thenQ_ret ?_
      exact bodyQ_ret _ rfl ⟨rfl, rfl⟩ rfl
  ·
    replace h := ite_fb hc1 h
    refine AWp.skip ?_
    refine thenQ_normal ?_
    refine AWp.seq ?_
    refine q1rq [] [] [0, 1, 13] [] ⟨20, [(0, .b16 x1), (1, .b16 x2), (13, .bool r4)], [], [], 0⟩ trivial ?_
    refine AWp.cond (b := r4) (by kernel_rfl) (fun hc3 => ?_) (fun hc3 => ?_)
    ·
      replace h := ite_tb hc3 h
      refine q1rq [] [] [4] [] ⟨20, [(4, .int .i64 (1 : Int))], [], [], 0⟩ trivial ?_
      have hret := Option.some.inj h
      subst hret
      refine AWp.le (Le.mk (s' := ⟨20, [(4, .int .i64 (1 : Int))], [], [], 0⟩) rfl rfl ⟨.refl _, trivial⟩ trivial) ?_
      refine AWp.ret ?_
      refine thenQ_ret ?_
      exact bodyQ_ret _ rfl ⟨rfl, rfl⟩ rfl
    ·
      replace h := ite_fb hc3 h
      refine AWp.skip ?_
      refine thenQ_normal ?_
      refine AWp.seq ?_
      refine q1rq [] [] [0, 1, 16] [] ⟨20, [(0, .b16 x1), (1, .b16 x2), (16, .bool (decide (x1.toNat < x2.toNat)))], [], [], 0⟩ trivial ?_
      refine AWp.cond (b := (decide (x1.toNat < x2.toNat))) (by kernel_rfl) (fun hc4 => ?_) (fun hc4 => ?_)
      ·
        replace h := ite_tb hc4 h
        refine q1rq [] [] [4] [] ⟨20, [(4, .int .i64 (-1 : Int))], [], [], 0⟩ trivial ?_
        have hret := Option.some.inj h
        subst hret
        refine AWp.le (Le.mk (s' := ⟨20, [(4, .int .i64 (-1 : Int))], [], [], 0⟩) rfl rfl ⟨.refl _, trivial⟩ trivial) ?_
        refine AWp.ret ?_
        refine thenQ_ret ?_
        exact bodyQ_ret _ rfl ⟨rfl, rfl⟩ rfl
      ·
        replace h := ite_fb hc4 h
        refine AWp.skip ?_
        refine thenQ_normal ?_
        refine AWp.seq ?_
        refine q1rq [] [] [19] [] ⟨20, [(19, .bool (decide (x1.toNat > x2.toNat)))], [], [], 0⟩ trivial ?_
        refine AWp.cond (b := (decide (x1.toNat > x2.toNat))) (by kernel_rfl) (fun hc5 => ?_) (fun hc5 => ?_)
        ·
          replace h := ite_tb hc5 h
          refine q1rq [] [] [4] [] ⟨20, [(4, .int .i64 (1 : Int))], [], [], 0⟩ trivial ?_
          have hret := Option.some.inj h
          subst hret
          refine AWp.le (Le.mk (s' := ⟨20, [(4, .int .i64 (1 : Int))], [], [], 0⟩) rfl rfl ⟨.refl _, trivial⟩ trivial) ?_
          refine AWp.ret ?_
          refine thenQ_ret ?_
          exact bodyQ_ret _ rfl ⟨rfl, rfl⟩ rfl
        ·
          replace h := ite_fb hc5 h
          refine AWp.skip ?_
          refine thenQ_normal ?_
          refine q1rq [] [] [4] [] ⟨20, [(4, .int .i64 (0 : Int))], [], [], 0⟩ trivial ?_
          have hret := Option.some.inj h
          subst hret
          refine AWp.le (Le.mk (s' := ⟨20, [(4, .int .i64 (0 : Int))], [], [], 0⟩) rfl rfl ⟨.refl _, trivial⟩ trivial) ?_
          refine AWp.ret ?_
          exact bodyQ_ret _ rfl ⟨rfl, rfl⟩ rfl
def f73_L0 (x1 : List Int) (K1 : Unit → Option Int) : Nat → Nat → Option Int
  | 0, _ => none
  | k + 1, n2 =>
    if (decide ((n2 : Int) < (((x1).length : Nat) : Int))) then (
    chk ((n2 : Int) < (((x1).length : Nat) : Int)) <|
    if ((x1.getD n2 0) != (0 : Int)) then (
    some (x1.getD n2 0)
    ) else (
    chk (((n2 : Int) + (1 : Int)) ≤ 9223372036854775807) <|
    (f73_L0 x1 K1 k) (n2 + 1)
    )
    ) else (
    K1 ()
    )
def f73 (x1 : List Int) : Option Int :=
  jn (fun (_ : Unit) =>
  some (0 : Int)
  ) fun (K1 : Unit → Option Int) =>
  f73_L0 x1 K1 FUEL 0
set_option maxRecDepth 100000 in
theorem f73_ok  (x1 : List Int) (r : Int) (h : f73 x1 = some r)  : Spec1 Tryz.prog 73 [] [] [] [vL 1 eI 0 x1] (.int .i64 r) [] := by
  unfold f73 at h
  refine Spec1.body 0 _ _ Tryz.func73 rfl Tryz.ntmps73 rfl rfl ?_
  refine q1rq [] [] [0] [] ⟨18, [(0, q1aI x1)], [], [], 0⟩ trivial ?_
  refine q1rq [] [] [0, 3] [] ⟨18, [(0, q1aI x1), (3, .int .i64 (0 : Int))], [], [], 0⟩ trivial ?_
  obtain ⟨K1, hK1, h⟩ := jn_some h
  refine AWp.join (α := Unit) (fun (x : Unit) => match x with | () => ⟨18, [(3, .int .i64 (0 : Int))], [], [], 0⟩) (fun x => K1 x = some r) ?_ ?_
  ·
    refine q1rq [] [] [3, 6, 7, 8] [] ⟨18, [(3, .int .i64 (0 : Int)), (6, q1aI x1), (7, .int .i64 (((x1).length : Nat) : Int)), (8, .int .i64 (0 : Int))], [], [], 0⟩ trivial ?_
    refine AWp.block ?_
    refine AWp.loopL (α := Nat × Nat) (fun x => match x with | (_, n2) => ⟨18, [(3, .int .i64 (0 : Int)), (6, q1aI x1), (7, .int .i64 (((x1).length : Nat) : Int)), (8, .int .i64 (n2 : Int))], [], [], 0⟩) (fun x => f73_L0 x1 K1 x.1 x.2 = some r) (fun x => x.1) (FUEL, 0) (Le.mk (s' := ⟨18, [(3, .int .i64 (0 : Int)), (6, q1aI x1), (7, .int .i64 (((x1).length : Nat) : Int)), (8, .int .i64 (0 : Int))], [], [], 0⟩) rfl rfl ⟨.refl _, .refl _, .refl _, .refl _, trivial⟩ trivial) h ?_
    rintro ⟨k0, n2⟩ h
    cases k0 with
    | zero => exact nomatch (show (none : Option Int) = some r from h)
    | succ k0 =>
    obtain ⟨C0, hC0⟩ : ∃ C, C = f73_L0 x1 K1 k0 := ⟨_, rfl⟩
    replace h := (f73_L0.eq_2 ..).symm.trans h
    try rw [← hC0] at h
    refine q1rq [] [] [3, 6, 7, 8, 9] [] ⟨18, [(3, .int .i64 (0 : Int)), (6, q1aI x1), (7, .int .i64 (((x1).length : Nat) : Int)), (8, .int .i64 (n2 : Int)), (9, .bool (decide ((n2 : Int) < (((x1).length : Nat) : Int))))], [], [], 0⟩ trivial ?_
    refine AWp.seq ?_
    refine AWp.cond (b := (decide ((n2 : Int) < (((x1).length : Nat) : Int)))) (by kernel_rfl) (fun hc1 => ?_) (fun hc1 => ?_)
    ·
      replace h := ite_tb hc1 h
      refine AWp.skip ?_
      refine thenQ_normal ?_
      refine AWp.seq ?_
      refine AWp.block ?_
      refine AWp.seq ?_
      obtain ⟨ob0p, h⟩ := chk_some h
      have ob0 : 0 ≤ (n2 : Int) ∧ (n2 : Int) < (((x1).length : Nat) : Int) := ⟨by omega, ob0p⟩
      refine q1rr [] [] [3, 5, 6, 7, 8] [] ⟨18, [(3, .int .i64 (0 : Int)), (5, .int .i64 (x1.getD n2 0)), (6, q1aI x1), (7, .int .i64 (((x1).length : Nat) : Int)), (8, .int .i64 (n2 : Int))], [], [], 0⟩ (an1 ob0) ?_
      refine thenQ_normal ?_
      refine q1rq [] [] [3, 5, 6, 7, 8, 14] [] ⟨18, [(3, .int .i64 (0 : Int)), (5, .int .i64 (x1.getD n2 0)), (6, q1aI x1), (7, .int .i64 (((x1).length : Nat) : Int)), (8, .int .i64 (n2 : Int)), (14, .bool ((x1.getD n2 0) != (0 : Int)))], [], [], 0⟩ trivial ?_
      refine AWp.cond (b := ((x1.getD n2 0) != (0 : Int))) (by kernel_rfl) (fun hc2 => ?_) (fun hc2 => ?_)
      ·
        replace h := ite_tb hc2 h
        refine q1rq [] [] [2] [] ⟨18, [(2, .int .i64 (x1.getD n2 0))], [], [], 0⟩ trivial ?_
        have hret := Option.some.inj h
        subst hret
        refine AWp.le (Le.mk (s' := ⟨18, [(2, .int .i64 (x1.getD n2 0))], [], [], 0⟩) rfl rfl ⟨.refl _, trivial⟩ trivial) ?_
        refine AWp.ret ?_
        refine blockQ_ret ?_
        refine thenQ_ret ?_
        refine thenQ_ret ?_
        refine blockQ_ret ?_
        refine joinQ_ret ?_
        exact bodyQ_ret _ rfl ⟨rfl, rfl⟩ rfl
      ·
        replace h := ite_fb hc2 h
        refine AWp.skip ?_
        refine blockQ_normal ?_
        refine thenQ_normal ?_
        obtain ⟨ob1p, h⟩ := chk_some h
        have ob1 : -9223372036854775808 ≤ ((n2 : Int) + (1 : Int)) ∧ ((n2 : Int) + (1 : Int)) ≤ 9223372036854775807 := ⟨by omega, ob1p⟩
        refine q1rr [] [] [3, 6, 7, 8] [] ⟨18, [(3, .int .i64 (0 : Int)), (6, q1aI x1), (7, .int .i64 (((x1).length : Nat) : Int)), (8, .int .i64 (((n2 + 1) : Nat) : Int))], [], [], 0⟩ (an1 ob1) ?_
        rw [hC0] at h
        exact loopQ_normal (_, (n2 + 1)) (Le.mk rfl rfl ⟨.refl _, .refl _, .refl _, .refl _, trivial⟩ trivial) h (Nat.lt_succ_self _)
    ·
      replace h := ite_fb hc1 h
      refine AWp.exit ?_
      refine thenQ_exit ?_
      refine thenQ_exit ?_
      refine blockQ_same ?_
      exact joinQ_normal () (Le.mk rfl rfl ⟨.refl _, trivial⟩ trivial) h
  ·
    rintro ⟨⟩ h
    replace h := (congrFun hK1 _).symm.trans h
    refine q1rq [] [] [2] [] ⟨18, [(2, .int .i64 (0 : Int))], [], [], 0⟩ trivial ?_
    have hret := Option.some.inj h
    subst hret
    refine AWp.le (Le.mk (s' := ⟨18, [(2, .int .i64 (0 : Int))], [], [], 0⟩) rfl rfl ⟨.refl _, trivial⟩ trivial) ?_
    refine AWp.ret ?_
    exact bodyQ_ret _ rfl ⟨rfl, rfl⟩ rfl
def f65 (x1 : BitVec 16) (x2 : BitVec 16) : Option Int :=
  (f91 x1).bind fun (r3 : Int) =>
  (f91 x2).bind fun (r4 : Int) =>
  (f90 r3 r4).bind fun (r5 : Int) =>
  (f92 x1 x2).bind fun (r6 : Int) =>
  (f73 [r5, r6]).bind fun (r7 : Int) =>
  some r7
set_option maxRecDepth 100000 in
theorem f65_ok  (x1 : BitVec 16) (x2 : BitVec 16) (r : Int) (h : f65 x1 x2 = some r)  : Spec1 Tryz.prog 65 [] [] [] [.b16 x1, .b16 x2] (.int .i64 r) [] := by
  unfold f65 at h
  refine Spec1.body 0 _ _ Tryz.func65 rfl Tryz.ntmps65 rfl rfl ?_
  refine q1rq [] [] [0, 1] [] ⟨15, [(0, .b16 x1), (1, .b16 x2)], [], [], 0⟩ trivial ?_
  refine AWp.seq ?_
  obtain ⟨r3, hr3, h⟩ := bind_ok h
  obtain ⟨r4, hr4, h⟩ := bind_ok h
  obtain ⟨r5, hr5, h⟩ := bind_ok h
  obtain ⟨r6, hr6, h⟩ := bind_ok h
  obtain ⟨r7, hr7, h⟩ := bind_ok h
  refine q1rr [] [(1, ⟨[.b16 x1], [], [], [], .int .i64 r3, [], [], []⟩), (3, ⟨[.b16 x2], [], [], [], .int .i64 r4, [], [], []⟩), (4, ⟨[.int .i64 r3, .int .i64 r4], [], [], [], .int .i64 r5, [], [], []⟩), (7, ⟨[.b16 x1, .b16 x2], [], [], [], .int .i64 r6, [], [], []⟩), (9, ⟨[q1aI [r5, r6]], [], [], [], .int .i64 r7, [], [13], []⟩)] [4] [] ⟨15, [(4, .int .i64 r7)], [], [], 0⟩ (an5 (cpT (f91_ok _ _ hr3)) (cpT (f91_ok _ _ hr4)) (cpT (f90_ok _ _ _ hr5)) (cpT (f92_ok _ _ _ hr6)) (cpL (c := true) [(13, .rows 3 1 2 (lstF 1 [.int .i64 r5, .int .i64 r6]))] [13] [.own 13] (fun _ => (f73_ok _ _ hr7)) (fun _ => ⟨(VLe.of (RL.lst (enc := eI) [r5, r6] rfl rfl (fun _ => rfl))), trivial⟩) (.inr ⟨rfl, trivial⟩))) ?_
  refine thenQ_normal ?_
  have hret := Option.some.inj h
  subst hret
  refine AWp.le (Le.mk (s' := ⟨15, [(4, .int .i64 r7)], [], [], 0⟩) rfl rfl ⟨.refl _, trivial⟩ trivial) ?_
  refine AWp.ret ?_
  exact bodyQ_ret _ rfl ⟨rfl, rfl⟩ rfl
def f43 (x1 : BitVec 16) (x2 : BitVec 16) (x3 : BitVec 16) (x4 : BitVec 16) : Option Int :=
  (f65 x1 x3).bind fun (r5 : Int) =>
  (f65 x2 x4).bind fun (r6 : Int) =>
  (f73 [r5, r6]).bind fun (r7 : Int) =>
  some r7
set_option maxRecDepth 100000 in
theorem f43_ok  (x1 : BitVec 16) (x2 : BitVec 16) (x3 : BitVec 16) (x4 : BitVec 16) (r : Int) (h : f43 x1 x2 x3 x4 = some r)  : Spec1 Tryz.prog 43 [] [] [] [.agg [.b16 x1, .b16 x2], .agg [.b16 x3, .b16 x4]] (.int .i64 r) [] := by
  unfold f43 at h
  refine Spec1.body 0 _ _ Tryz.func43 rfl Tryz.ntmps43 rfl rfl ?_
  refine q1rq [] [] [2, 3] [2, 3] ⟨17, [(2, .ptr 2 0), (3, .ptr 3 0)], [(2, .cells 30 [.b16 x1, .b16 x2]), (3, .cells 30 [.b16 x3, .b16 x4])], [], 0⟩ trivial ?_
  refine AWp.seq ?_
  obtain ⟨r5, hr5, h⟩ := bind_ok h
  obtain ⟨r6, hr6, h⟩ := bind_ok h
  obtain ⟨r7, hr7, h⟩ := bind_ok h
  refine q1rr [] [(4, ⟨[.b16 x1, .b16 x3], [], [], [], .int .i64 r5, [], [], []⟩), (9, ⟨[.b16 x2, .b16 x4], [], [], [], .int .i64 r6, [], [], []⟩), (11, ⟨[q1aI [r5, r6]], [], [], [], .int .i64 r7, [], [15], []⟩)] [4] [] ⟨17, [(4, .int .i64 r7)], [], [], 0⟩ (an3 (cpT (f65_ok _ _ _ hr5)) (cpT (f65_ok _ _ _ hr6)) (cpL (c := true) [(15, .rows 3 1 2 (lstF 1 [.int .i64 r5, .int .i64 r6]))] [15] [.own 15] (fun _ => (f73_ok _ _ hr7)) (fun _ => ⟨(VLe.of (RL.lst (enc := eI) [r5, r6] rfl rfl (fun _ => rfl))), trivial⟩) (.inr ⟨rfl, trivial⟩))) ?_
  refine thenQ_normal ?_
  have hret := Option.some.inj h
  subst hret
  refine AWp.le (Le.mk (s' := ⟨17, [(4, .int .i64 r7)], [], [], 0⟩) rfl rfl ⟨.refl _, trivial⟩ trivial) ?_
  refine AWp.ret ?_
  exact bodyQ_ret _ rfl ⟨rfl, rfl⟩ rfl
end Go.Abs
namespace Go.Abs

/-- the bits of n from number i on, c of them -/
def bsum (n : Nat) : Nat → Nat → Nat
  | _, 0 => 0
  | i, c + 1 => n / 2 ^ i % 2 + bsum n (i + 1) c
def sz (x : BitVec 16) : Nat := bsum x.toNat 0 16
theorem bsum_lo (n : Nat) : bsum (n % 256) 0 8 = bsum n 0 8 := by
  have h0 : n % 256 / 2 ^ 0 % 2 = n / 2 ^ 0 % 2 := by omega
  have h1 : n % 256 / 2 ^ 1 % 2 = n / 2 ^ 1 % 2 := by omega
  have h2 : n % 256 / 2 ^ 2 % 2 = n / 2 ^ 2 % 2 := by omega
  have h3 : n % 256 / 2 ^ 3 % 2 = n / 2 ^ 3 % 2 := by omega
  have h4 : n % 256 / 2 ^ 4 % 2 = n / 2 ^ 4 % 2 := by omega
  have h5 : n % 256 / 2 ^ 5 % 2 = n / 2 ^ 5 % 2 := by omega
  have h6 : n % 256 / 2 ^ 6 % 2 = n / 2 ^ 6 % 2 := by omega
  have h7 : n % 256 / 2 ^ 7 % 2 = n / 2 ^ 7 % 2 := by omega
  simp only [bsum, h0, h1, h2, h3, h4, h5, h6, h7]
theorem bsum_hi (n m : Nat) : ∀ c i, bsum (n / 2 ^ m) i c = bsum n (m + i) c
  | 0, i => rfl
  | c + 1, i => by
    simp only [bsum, bsum_hi n m c (i + 1)]
    rw [Nat.div_div_eq_div_mul, ← Nat.pow_add]
    rfl
theorem bsum_app (n : Nat) : ∀ c i d, bsum n i (c + d) = bsum n i c + bsum n (i + c) d
  | 0, i, d => by simp [bsum]
  | c + 1, i, d => by
    rw [show c + 1 + d = (c + d) + 1 by omega]
    simp only [bsum, bsum_app n c (i + 1) d]
    rw [show i + 1 + c = i + (c + 1) by omega]; omega
theorem bsum_split (n : Nat) : bsum (n / 256) 0 8 + bsum (n % 256) 0 8 = bsum n 0 16 := by
  have h := bsum_app n 8 0 8
  have h2 := bsum_hi n 8 8 0
  rw [bsum_lo]
  simp only [Nat.reducePow, Nat.reduceAdd] at h h2 ⊢
  omega
theorem bsum_le (n : Nat) : ∀ c i, bsum n i c ≤ c
  | 0, i => Nat.le_refl _
  | c + 1, i => by
    have := bsum_le n c (i + 1)
    have hb : n / 2 ^ i % 2 < 2 := Nat.mod_lt _ (by decide)
    simp only [bsum]; omega
def pop8 : List UInt8 := [0, 1, 1, 2, 1, 2, 2, 3, 1, 2, 2, 3, 2, 3, 3, 4, 1, 2, 2, 3, 2, 3, 3, 4, 2, 3, 3, 4, 3, 4, 4, 5, 1, 2, 2, 3, 2, 3, 3, 4, 2, 3, 3, 4, 3, 4, 4, 5, 2, 3, 3, 4, 3, 4, 4, 5, 3, 4, 4, 5, 4, 5, 5, 6, 1, 2, 2, 3, 2, 3, 3, 4, 2, 3, 3, 4, 3, 4, 4, 5, 2, 3, 3, 4, 3, 4, 4, 5, 3, 4, 4, 5, 4, 5, 5, 6, 2, 3, 3, 4, 3, 4, 4, 5, 3, 4, 4, 5, 4, 5, 5, 6, 3, 4, 4, 5, 4, 5, 5, 6, 4, 5, 5, 6, 5, 6, 6, 7, 1, 2, 2, 3, 2, 3, 3, 4, 2, 3, 3, 4, 3, 4, 4, 5, 2, 3, 3, 4, 3, 4, 4, 5, 3, 4, 4, 5, 4, 5, 5, 6, 2, 3, 3, 4, 3, 4, 4, 5, 3, 4, 4, 5, 4, 5, 5, 6, 3, 4, 4, 5, 4, 5, 5, 6, 4, 5, 5, 6, 5, 6, 6, 7, 2, 3, 3, 4, 3, 4, 4, 5, 3, 4, 4, 5, 4, 5, 5, 6, 3, 4, 4, 5, 4, 5, 5, 6, 4, 5, 5, 6, 5, 6, 6, 7, 3, 4, 4, 5, 4, 5, 5, 6, 4, 5, 5, 6, 5, 6, 6, 7, 4, 5, 5, 6, 5, 6, 6, 7, 5, 6, 6, 7, 6, 7, 7, 8]
theorem pop8_all : (List.range 256).all (fun b => (pop8.getD b 0).toNat == bsum b 0 8) = true := by decide +kernel
theorem pop8_at (b : Nat) (h : b < 256) : (pop8.getD b 0).toNat = bsum b 0 8 := by
  have := List.all_eq_true.1 pop8_all b (List.mem_range.2 h)
  simpa using this
def cmpI (a b : Int) : Int := if a < b then -1 else if a > b then 1 else 0
/-- the order of sets -/
def ltS (a b : BitVec 16) : Bool := if sz a ≠ sz b then decide (sz a < sz b) else decide (a.toNat < b.toNat)
def key (x : BitVec 16) : Nat := sz x * 65536 + x.toNat
theorem ltS_key {a b : BitVec 16} : ltS a b = true ↔ key a < key b := by
  have ha := a.isLt
  have hb := b.isLt
  unfold ltS key
  by_cases h : sz a = sz b
  · simp [h]
  · simp only [ne_eq, h, not_false_eq_true, if_true, decide_eq_true_eq]
    omega
/-- set.Compare -/
def cmpS (a b : BitVec 16) : Int := if cmpI (sz a) (sz b) ≠ 0 then cmpI (sz a) (sz b) else cmpI a.toNat b.toNat
theorem cmpS_lt (a b : BitVec 16) : decide (cmpS a b < 0) = ltS a b := by
  unfold cmpS cmpI ltS
  by_cases h : sz a = sz b
  · simp [h]
    by_cases h2 : a.toNat < b.toNat
    · simp [h2]
    · simp [h2]; split <;> omega
  · by_cases h1 : sz a < sz b
    · simp [h, h1]
    · have : sz b < sz a := by omega
      simp [h, h1, this]
end Go.Abs
namespace Go.Abs
section
variable {α : Type}
def insK (k : α → Nat) (a : α) : List α → List α
  | [] => [a]
  | b :: l => if k a ≤ k b then a :: b :: l else b :: insK k a l
def isortK (k : α → Nat) : List α → List α
  | [] => []
  | a :: l => insK k a (isortK k l)
variable {k : α → Nat}
theorem insK_perm (a : α) : ∀ l, (insK k a l).Perm (a :: l)
  | [] => .refl _
  | b :: l => by
    unfold insK
    split
    · exact .refl _
    · exact ((insK_perm a l).cons b).trans (.swap ..)
theorem isortK_perm : ∀ l, (isortK k l).Perm l
  | [] => .refl _
  | a :: l => (insK_perm a _).trans ((isortK_perm l).cons a)
theorem insK_sorted (a : α) : ∀ l, l.Pairwise (fun x y => k x ≤ k y) → (insK k a l).Pairwise fun x y => k x ≤ k y
  | [], _ => by simp [insK]
  | b :: l, h => by
    unfold insK
    rw [List.pairwise_cons] at h
    split
    · rename_i hab
      refine List.pairwise_cons.2 ⟨fun x hx => ?_, List.pairwise_cons.2 h⟩
      rcases List.mem_cons.1 hx with rfl | hx
      · exact hab
      · exact Nat.le_trans hab (h.1 x hx)
    · rename_i hab
      refine List.pairwise_cons.2 ⟨fun x hx => ?_, insK_sorted a l h.2⟩
      rcases List.mem_cons.1 ((insK_perm a l).mem_iff.1 hx) with rfl | hx
      · omega
      · exact h.1 x hx
theorem isortK_sorted : ∀ l, (isortK k l).Pairwise fun x y => k x ≤ k y
  | [] => .nil
  | a :: l => insK_sorted a _ (isortK_sorted l)
theorem sorted_uniq (inj : ∀ x y, k x = k y → x = y) : ∀ l1 l2 : List α, l1.Perm l2 → l1.Pairwise (fun x y => k x ≤ k y) → l2.Pairwise (fun x y => k x ≤ k y) → l1 = l2
  | [], l2, h, _, _ => (List.nil_perm.1 h).symm
  | a :: l1, [], h, _, _ => by have := h.length_eq; simp at this
  | a :: l1, b :: l2, h, h1, h2 => by
    rw [List.pairwise_cons] at h1 h2
    have e : a = b := by
      refine inj a b (Nat.le_antisymm ?_ ?_)
      · rcases List.mem_cons.1 (h.mem_iff.2 (List.mem_cons_self (a := b) (l := l2))) with rfl | hb
        · exact Nat.le_refl _
        · exact h1.1 b hb
      · rcases List.mem_cons.1 (h.mem_iff.1 (List.mem_cons_self (a := a) (l := l1))) with rfl | ha
        · exact Nat.le_refl _
        · exact h2.1 a ha
    subst e
    rw [sorted_uniq inj l1 l2 (List.Perm.cons_inv h) h1.2 h2.2]
theorem isortK_eq (inj : ∀ x y, k x = k y → x = y) {lt : α → α → Bool} (hlt : ∀ x y, lt x y = true ↔ k x < k y) (l : List α) : l.mergeSort (fun x y => !lt y x) = isortK k l := by
  have hle : ∀ x y, (!lt y x) = true ↔ k x ≤ k y := by
    intro x y
    have := hlt y x
    cases h : lt y x <;> simp [h] at this ⊢ <;> omega
  refine sorted_uniq inj _ _ ((List.mergeSort_perm l _).trans (isortK_perm l).symm) ?_ (isortK_sorted l)
  have := List.pairwise_mergeSort (le := fun x y => !lt y x) (fun a b c h1 h2 => (hle _ _).2 (Nat.le_trans ((hle _ _).1 h1) ((hle _ _).1 h2))) (fun a b => by
    rcases Nat.le_total (k a) (k b) with h | h
    · rw [(hle a b).2 h]; rfl
    · rw [(hle b a).2 h, Bool.or_true]) l
  exact this.imp fun h => (hle _ _).1 h
end
end Go.Abs
