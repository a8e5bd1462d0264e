/- Part 19 of the proof: AtoiW. -/
import Derived.Test.YtmcmhjdmilgoeaaGreatDoorFlttxtZ18
import Derived.Shelf.Strconv.AtoiAll
namespace Go.Abs
open Go Go.RowKit Go.Lib Go.Shelf Go.Proofs
/-- A variable that holds an error that is not nil. -/
def errG : V := .elem 1 1 (fun _ _ => .ifc true) 0 0
theorem errG_cell {St : Nat → Prop} {w : World} {g : Gh} {G : Nat} (h : Rel St w g errG (.pointer (some ⟨G, 0, none⟩))) : ∃ t v, w.cell? ⟨G, 0, none⟩ = some (.iface t v) := by
  unfold errG at h
  generalize hp : Value.pointer (some ⟨G, 0, none⟩) = p at h
  cases h with
  | elem _ _ _ _ _ _ b o x hi hs hc h1 hr =>
    have e1 := hc 0 0 (by omega) (by omega)
    have e2 := hr 0 0 (by omega) (by omega)
    simp only [Value.pointer.injEq, Option.some.injEq, Addr.mk.injEq] at hp
    obtain ⟨rfl, hp, _⟩ := hp
    have e3 : o + 0 * 1 + 0 = 0 := hp.symm
    rw [e3] at e1
    cases e2 with
    | ifc _ _ _ hx =>
      obtain ⟨t, v, hx⟩ := hx
      exact ⟨t, v, e1.trans (congrArg some hx)⟩
def atoiO (s : List UInt8) : Option (Int × Bool) :=
  if s.length ≤ 281474976710656 then
    match Lib.atoiAll s with
    | .ok v => some (v, false)
    | .range => some (Lib.atoiSat s, true)
    | _ => some (0, true)
  else none
theorem atoi_spec {P : Program} {ρ : Ren} (L : LaysC.n172 P ρ) {f : FuncId} (hf : ρ.f 172 = f) {g1 g2 : Nat} (hg1 : ρ.g 15 = g1) (hg2 : ρ.g 16 = g2)
    (s : List UInt8) (r : Int × Bool) (hr : atoiO s = some r) : Spec1 P f [(g1, errG), (g2, errG)] [] [] [.str s] (.tup [.int .i64 r.1, .ifc r.2]) [] := by
  subst hf hg1 hg2
  unfold atoiO at hr
  split at hr
  case isFalse => cases hr
  rename_i hn
  intro z vals hW hl hv hgs
  have e0 := hv 0 (by simp)
  simp only [List.getD_cons_zero] at e0
  obtain ⟨b, hs1, hs2⟩ := e0.str_inv
  have hv' : vals = #[vals.getD 0 undef] := by
    apply Array.ext
    · simpa using hl
    · intro i h1 h2
      have : i = 0 := by simp at h2; omega
      subst this; simp [h1]
  rw [hv', hs1]
  have hsz : b.size = s.length := by rw [← hs2]; simp
  obtain ⟨t1, v1, hc1⟩ := errG_cell (hgs (ρ.g 15, errG) (by simp))
  obtain ⟨t2, v2, hc2⟩ := errG_cell (hgs (ρ.g 16, errG) (by simp))
  cases hq : Lib.atoiAll s with
  | ok v =>
    rw [hq] at hr
    cases hr
    refine (Any.strconv_Atoi_ok L b (by omega) v (by rw [hs2]; exact hq) z.w).mono ?_
    rintro e w' ⟨rfl, hw⟩
    have hb : Go.RowKit.Below z.w.heap.size z.w w' := by
      rcases hw with rfl | ⟨t, rfl⟩
      · exact Below.refl _ _
      · exact Lib.bytesWorld_below _ _ _
    refine ⟨_, _, _, z.St, _, rfl, ⟨rfl, rfl⟩, hW.below hb, .tup _ _ _ rfl fun i hi => ?_, fun k hk => by cases hk⟩
    match i, hi with
    | 0, _ => exact .int _ _ _
    | 1, _ => exact .ifc _ _ _ rfl
  | range =>
    rw [hq] at hr
    cases hr
    refine (Any.strconv_Atoi_range L b (by omega) (by rw [hs2]; exact hq) _ z.w hc2 (.inr ⟨_, _, rfl⟩)).mono ?_
    rintro e w' ⟨N, rfl, _, _, hb⟩
    refine ⟨_, _, _, z.St, _, rfl, ⟨rfl, rfl⟩, hW.below hb, .tup _ _ _ rfl fun i hi => ?_, fun k hk => by cases hk⟩
    match i, hi with
    | 0, _ => rw [hs2]; exact .int _ _ _
    | 1, _ => exact .ifc _ _ _ ⟨_, _, rfl⟩
  | _ =>
    rw [hq] at hr
    cases hr
    refine (Any.strconv_Atoi_syntax L b (by omega) (by rw [hs2]; exact hq) _ z.w hc1 (.inr ⟨_, _, rfl⟩)).mono ?_
    rintro e w' ⟨N, rfl, _, _, hb⟩
    refine ⟨_, _, _, z.St, _, rfl, ⟨rfl, rfl⟩, hW.below hb, .tup _ _ _ rfl fun i hi => ?_, fun k hk => by cases hk⟩
    match i, hi with
    | 0, _ => exact .int _ _ _
    | 1, _ => exact .ifc _ _ _ ⟨_, _, rfl⟩
/-- An interface compared with nil. -/
theorem ifc_eqIn {P : Program} {t : TypeId} {ms : Array (String × TypeId)} (ht : P.underlying t = some (.interface ms)) (b : Bool) (v : Value) (w : World) (d : Nat) (h : ifcOk b v) : (Op.equalIn (d + 1) t v .nilIface).run P w = .ok (!b) w := by
  cases b
  · obtain rfl : v = .nilIface := h
    simp [Op.equalIn, run_underlying ht]
  · obtain ⟨t', x, rfl⟩ := h
    simp [Op.equalIn, run_underlying ht]
theorem ifc_guard {P : Program} {t : TypeId} (op : BinOp) (X : Operand) (b : Bool) (v : Value) (w : World) (h : ifcOk b v) : (eqGuard op t X (.const .nilIface) v .nilIface).run P w = .ok () w := by
  cases b
  · obtain rfl : v = .nilIface := h
    cases op <;> cases X <;> rfl
  · obtain ⟨t', x, rfl⟩ := h
    cases op <;> rfl
theorem ifc_cmp {P : Program} {t : TypeId} {ms : Array (String × TypeId)} (ht : P.underlying t = some (.interface ms)) (b : Bool) (v : Value) (w : World) (h : ifcOk b v) :
    ((binOp .eql t v .nilIface).run P w = .ok (.bool (!b)) w) ∧ ((binOp .neq t v .nilIface).run P w = .ok (.bool b) w) := by
  have e : (Op.equal t v .nilIface).run P w = .ok (!b) w := ifc_eqIn ht b v w 9999 h
  have hv : v = .nilIface ∨ ∃ t' x, v = .iface t' x := by
    cases b
    · exact .inl h
    · exact .inr h
  rcases hv with rfl | ⟨t', x, rfl⟩ <;> constructor <;> simp only [binOp, Sem.run_bind, e, Result.andThen_ok, Sem.run_pure, Bool.not_not]
theorem ifcN_spec {P : Program} {t : TypeId} {ms : Array (String × TypeId)} (ht : P.underlying t = some (.interface ms)) (X : Operand) (yt ty : Nat) (b : Bool) : OpSpec P (.binOp .neq t X (.const .nilIface) yt) ty [] [] [.ifc b, .lit .nilIface] (.bool b) [] := by
  rintro o ho _ z ρ hW hr
  obtain ⟨dst, op', ty0, pos, after, guard⟩ := o
  dsimp only at ho; subst ho
  have h0 := hr 0 (by simp); have h1 := hr 1 (by simp)
  simp [Op.operands] at h0 h1
  cases h0 with
  | ifc _ _ _ hb =>
    have h2 := (ifc_cmp ht b _ z.w hb).2
    have h4 := ifc_guard (P := P) (t := t) .neq X b _ z.w hb
    have h3 := h1.lit_inv
    refine ⟨_, _, z.w, z.St, z.g, by simp only [execOp]; rw [h3]; simp [h2, h4, Result.andThen], .inl rfl, hW, .bool _ _, fun q hq => by cases hq⟩
end Go.Abs
