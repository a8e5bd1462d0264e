/- TopCoteries: the card. -/
import Derived.Test.YtjgboohpholnbaaDoorTpcotZ26
import Derived.Test.YtjgboohpholnbaaDoorCards
import Derived.Test.YtjgboohpholnbaaDoorTie
import Derived.WalkKit
import Derived.ProofKit
import Derived.OpenShut
import Derived.Deep.DeepHandedRow
import Derived.Lib.LaidTab
namespace Go.Proofs.YtjgboohpholnbaaDoor.topCoteries
open Go Go.ChangeShapes Go.WideShapes Go.ChangeAt Go.RowKit Go.Abs

theorem own : ownKnob Tryd.prog.godebug = none := by kernel_rfl
theorem laidOut : laidOutB Tryd.prog = true := by kernel_rfl
def wit : Array Value := #[.agg #[.int .u8 0, .int .u8 0, .int .u8 0], .int .u8 0, .int .u8 0]
def tabCells (k : IntKind) (l : List Nat) : Array Value := (l.map fun (n : Nat) => Value.int k (n : Int)).toArray
def lay (a : Array Value) : Obj → Obj
  | .cells _ t frozen => .cells a t frozen
  | o => o
noncomputable def laidWorld (os : Os) : World :=
  { (World.holding Tryd.prog os ⟨#[], #[], []⟩) with heap := ((World.holding Tryd.prog os ⟨#[], #[], []⟩).heap.modify 0 (lay (tabCells .u8 T0))) }
theorem laid_met (os : Os) : laidMet Tryd.prog Rows.topCoteriesRow.laid ((laidWorld os).forCall (fun _ _ => 0) ⟨#[], wit, []⟩).memory :=
  laidMet_of_run' 8 (by kernel_rfl) (by kernel_rfl)
theorem reads (os : Os) {H : Type} (enc : TypeId × Value → H) : ∃ places, DataW.whole enc Tryd.prog ((laidWorld os).forCall (fun _ _ => 0) ⟨#[], wit, []⟩).memory Tryd.f5.params.toList Rows.topCoteriesSpec.vars false wit.toList 8 = some ([.agg [.lit (.int .u8 0), .lit (.int .u8 0), .lit (.int .u8 0)], .lit (.int .u8 0), .lit (.int .u8 0)], [], places) :=
  ⟨[], by kernel_rfl⟩
noncomputable def nm : Nat → String := fun k => (Rows.topCoteriesRow.laid.map Prod.fst).getD k ""
theorem laidMet_tl {P : Program} {x : String × DataW Unit} {rest : List (String × DataW Unit)} {W : World} (h : laidMet P (x :: rest) W) : laidMet P rest W := by
  obtain ⟨ps, ⟨g', t', cs, fuel, p, q, hg', ht', hvar, hd, hrest, he⟩, hnd, hcells⟩ := h
  subst he
  exact ⟨q, hrest, (List.nodup_append.1 hnd).2.1, fun b off hb => hcells b off (List.mem_append_right _ hb)⟩
def intsOf (l : List Nat) : List Int := l.map fun (n : Nat) => (n : Int)
noncomputable def gty (g : Nat) : TypeId := (Tryd.prog.globals[g]?.map (·.type)).getD 0
noncomputable def gel (g : Nat) : TypeId := match Tryd.prog.underlying (gty g) with | some (.array _ e) => e | _ => 0
theorem tab0 {W : World} (h : laidMetH Tryd.prog Rows.topCoteriesRow.laid W) : Lib.TabIs Tryd.prog W (nm 0) .u8 (intsOf T0) :=
  Lib.tabIs_of_head (rest := Rows.topCoteriesRow.laid.drop 1) (g := 0) (t := gty 0) (n := 32) (e := gel 0) (by kernel_rfl) (by kernel_rfl) (by kernel_rfl) (by kernel_rfl) (by kernel_rfl) (by kernel_rfl) h
theorem cell_of {W : World} {name : String} {k : IntKind} {l : List Nat} {g : Nat} (h : Lib.TabIs Tryd.prog W name k (intsOf l)) (hg : Tryd.prog.globalNamed name = some g) (j : Nat) (hj : j < l.length) :
    W.cell? ⟨g, j, none⟩ = some (.int k ((l.getD j 0 : Nat) : Int)) := by
  rw [h.cell hg j (by simpa [intsOf] using hj)]
  simp [intsOf, List.getD_eq_getElem?_getD, hj]
set_option maxRecDepth 100000 in
theorem contract (H : Type) (enc : TypeId × Value → H) (W : World) (base : Nat) (args : Array Value) (ds gs : List (DataW H)) (before : List MemPlace)
    (hval : ∀ (j : Nat) t v, Tryd.f5.params[j]? = some t → args[j]? = some v → Value.okWide Tryd.prog W .any base t v)
    (hW : DataW.Whole enc Tryd.prog Tryd.f5.params.toList Rows.topCoteriesSpec.vars false W args.toList ds gs before) (hL : laidMetH Tryd.prog Rows.topCoteriesRow.laid W) :
    Calls Tryd.prog 5 args W fun e W' => ∃ v, e = .returned v ∧ Rows.topCoteriesSpec.post enc Tryd.prog Tryd.f5 false true false false W args v W' := by
  have hW' := hW
  obtain ⟨p, q, hA0, hV, rfl, hfz, hnd⟩ := hW
  have hA : DataW.TrodAll enc Tryd.prog W 0 (fun _ => true) true Tryd.f5.params.toList args.toList ds p := hA0
  rw [Tryd.params5] at hA hval
  obtain ⟨v0, vs0, d0, ds0, p0, q0, hargs0, rfl, rfl, h0, r0⟩ := trodAll_cons hA
  obtain ⟨v1, vs1, d1, ds1, p1, q1, hargs1, rfl, rfl, h1, r1⟩ := trodAll_cons r0
  obtain ⟨v2, vs2, d2, ds2, p2, q2, hargs2, rfl, rfl, h2, r2⟩ := trodAll_cons r1
  obtain ⟨rfl, rfl, rfl⟩ := trodAll_nil r2
  subst hargs2
  subst hargs1
  obtain rfl : args = #[v0, v1, v2] := by cases args; simp_all
  obtain ⟨rfl, rfl⟩ := trodVars_none hV
  have hv0 : Value.okWide Tryd.prog W .any base 54 v0 := hval 0 54 v0 (by simp) (by simp)
  obtain ⟨a0, b0, c0, oa0, ob0, oc0, hrel0⟩ := open_arr3 (P := Tryd.prog) (t := 54) (e := 5) (ts := [5, 5, 5]) Tryd.underlying54 (by kernel_rfl) (by kernel_rfl) (by decide) Tryd.underlying5 hv0
  have hv1 : Value.okWide Tryd.prog W .any base 5 v1 := hval 1 5 v1 (by simp) (by simp)
  obtain ⟨l1, rfl, b1, c1⟩ := open_u8 (P := Tryd.prog) (t := 5) Tryd.underlying5 hv1
  have hrel1 : Rel (allSt W) W noGh (.int .u8 l1) _ := .int _ _ l1
  have hv2 : Value.okWide Tryd.prog W .any base 5 v2 := hval 2 5 v2 (by simp) (by simp)
  obtain ⟨l2, rfl, b2, c2⟩ := open_u8 (P := Tryd.prog) (t := 5) Tryd.underlying5 hv2
  have hrel2 : Rel (allSt W) W noGh (.int .u8 l2) _ := .int _ _ l2
  have hcall := law_true (f5_ok a0 b0 c0 l1 l2 true (f5_true a0 b0 c0 l1 l2 oa0 ob0 oc0 b1 c1 b2 c2)) W #[_, _, _] rfl (fun i hi => by
    have hi' : i < 3 := hi
    match i, hi' with
    | 0, _ => exact hrel0
    | 1, _ => exact hrel1
    | 2, _ => exact hrel2) (fun pr hp => by
    simp only [List.mem_cons, List.not_mem_nil, or_false] at hp
    subst hp
    · exact rel_table (l := T0) (fun _ => rfl) (by decide) (fun j hj => cell_of (tab0 hL) (by kernel_rfl) j hj))
  refine hcall.mono fun e W' ⟨he, hb⟩ => ⟨_, he, ?_⟩
  exact post_law laidOut (by kernel_rfl) rfl Tryd.underlying4 rfl hW' rfl rfl rfl hb

set_option maxRecDepth 100000 in
theorem lifted (os : Os) (started : os.Started) (H : Type) (enc : TypeId × Value → H) (F : Stop.Interp) :
    ReturnsInHanded {} Tryd.checked os 5 .any ((OpenSpec.ofChange Rows.topCoteriesSpec).preRow enc Tryd.prog Tryd.f5 Rows.topCoteriesRow.domain false Rows.topCoteriesRow.laid) (((OpenSpec.ofChange Rows.topCoteriesSpec).at F).post enc Tryd.prog Tryd.f5 false true false false) := by
  obtain ⟨places, hx⟩ := reads os enc
  refine returnsInHanded_of_row (C := Tryd.checked) (s := OpenSpec.ofChange Rows.topCoteriesSpec) own started (by kernel_rfl) Tryd.func5
    (witness_row_at (enc := enc) (C := Tryd.checked) false (laidWorld os) wit rfl (by kernel_rfl) (by kernel_rfl) (by kernel_rfl)
      (OpenSpec.preRow_of_cond 8 hx (by kernel_rfl) (fun k hk => by cases hk) (by kernel_rfl) (laid_met os))) ?_
  intro W base args ds gs before hval hW _ _ _ hL _ _
  exact contract H enc W base args ds gs before hval hW hL
theorem said : Rows.TopCoteriesSaid :=
  OpenClaim.holds_of_cond 5 Tryd.f5 rfl rfl rfl rfl rfl rfl rfl ⟨rfl, rfl, rfl, rfl, rfl⟩ rfl rfl rfl rfl rfl (by kernel_rfl) Tryd.func5 (by kernel_rfl)
    (of_decide_eq_true (by kernel_rfl)) (by unfold Func.isWrapper; first | (rw [if_pos (by decide +kernel)]; kernel_rfl) | (rw [if_neg (by decide +kernel)]; exact ⟨rfl, rfl⟩))
    (fun os started H enc _ F => by rw [OpenClaim.pre_eq_preRow]; exact lifted os started H enc F)
theorem plain (f : FuncId) (fn : Func) (hf : Tryd.pinned.checked.prog.funcNamed Tryd.f5.name = some f) (hfn : Tryd.pinned.checked.prog.funcs[f]? = some fn) :
    false = Tryd.pinned.checked.prog.looks [] ∧ ∀ (j : Nat) t, fn.params[j]? = some t → Tryd.pinned.checked.prog.wantsStandIn t = false := by
  obtain rfl : f = 5 := Option.some.inj ((show Tryd.prog.funcNamed Tryd.f5.name = some 5 by kernel_rfl).symm.trans hf) |>.symm
  obtain rfl : fn = Tryd.f5 := (Option.some.inj (Tryd.func5.symm.trans hfn)).symm
  refine ⟨by kernel_rfl, fun j t ht => ?_⟩
  have hm := Array.mem_of_getElem? ht
  have hall : Tryd.f5.params.toList.all (fun t => !Tryd.prog.wantsStandIn t) = true := by kernel_rfl
  have hw : Tryd.prog.wantsStandIn t = false := by simpa using List.all_eq_true.1 hall t (Array.mem_toList_iff.2 hm)
  exact hw
theorem card : Rows.TopCoteriesCardSaid :=
  Claim7.holds_tied_plain_at .later [] _ _ _ _ said (fun _ h => by cases h) (by kernel_rfl) (fun _ h => by cases h) topCoteries_row_tie rfl ⟨rfl, rfl⟩ (by kernel_rfl) rfl plain (by kernel_rfl)
#print axioms card
end Go.Proofs.YtjgboohpholnbaaDoor.topCoteries
