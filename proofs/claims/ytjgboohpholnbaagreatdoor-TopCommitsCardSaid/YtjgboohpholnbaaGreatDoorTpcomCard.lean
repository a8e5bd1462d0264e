/- TopCommits: the card. -/
import Derived.Test.YtjgboohpholnbaaGreatDoorTpcomZ28
import Derived.Test.YtjgboohpholnbaaGreatDoorCards
import Derived.Test.YtjgboohpholnbaaGreatDoorTie
import Derived.WalkKit
import Derived.ProofKit
import Derived.OpenShut
import Derived.Deep.DeepHandedRow
import Derived.Lib.LaidTab
namespace Go.Proofs.YtjgboohpholnbaaGreatDoor.topCommits
open Go Go.ChangeShapes Go.WideShapes Go.ChangeAt Go.RowKit Go.Abs

theorem own : ownKnob Tryz.prog.godebug = none := by kernel_rfl
theorem laidOut : laidOutB Tryz.prog = true := by kernel_rfl
def wit : Array Value := #[.agg #[.int .u8 0, .int .u8 0, .int .u8 0, .slice none 0 0, .slice none 0 0, .slice none 0 0, .int .u8 0, .int .u8 0, .int .u8 0, .slice none 0 0, .slice none 0 0, .slice none 0 0, .int .u16 0, .slice none 0 0], .int .u8 0]
def tabCells (k : IntKind) (l : List Nat) : Array Value := (l.map fun (n : Nat) => Value.int k (n : Int)).toArray
def lay (a : Array Value) : Obj → Obj
  | .cells _ t frozen => .cells a t frozen
  | o => o
noncomputable def laidWorld (os : Os) : World :=
  { (World.holding Tryz.prog os ⟨#[], #[], []⟩) with heap := ((World.holding Tryz.prog os ⟨#[], #[], []⟩).heap.modify 0 (lay (tabCells .u8 T0))) }
theorem laid_met (os : Os) : laidMet Tryz.prog Rows.topCommitsRow.laid ((laidWorld os).forCall (fun _ _ => 0) ⟨#[], wit, []⟩).memory :=
  laidMet_of_run' 8 (by kernel_rfl) (by kernel_rfl)
theorem reads (os : Os) {H : Type} (enc : TypeId × Value → H) : ∃ places, DataW.whole enc Tryz.prog ((laidWorld os).forCall (fun _ _ => 0) ⟨#[], wit, []⟩).memory Tryz.f3.params.toList Rows.topCommitsSpec.vars false wit.toList 8 = some ([.agg [.agg [.lit (.int .u8 0), .lit (.int .u8 0), .lit (.int .u8 0), .nil, .nil, .nil], .agg [.lit (.int .u8 0), .lit (.int .u8 0), .lit (.int .u8 0), .nil, .nil, .nil], .lit (.int .u16 0), .nil], .lit (.int .u8 0)], [], places) :=
  ⟨[], by kernel_rfl⟩
noncomputable def nm : Nat → String := fun k => (Rows.topCommitsRow.laid.map Prod.fst).getD k ""
theorem laidMet_tl {P : Program} {x : String × DataW Unit} {rest : List (String × DataW Unit)} {W : World} (h : laidMet P (x :: rest) W) : laidMet P rest W := by
  obtain ⟨ps, ⟨g', t', cs, fuel, p, q, hg', ht', hvar, hd, hrest, he⟩, hnd, hcells⟩ := h
  subst he
  exact ⟨q, hrest, (List.nodup_append.1 hnd).2.1, fun b off hb => hcells b off (List.mem_append_right _ hb)⟩
def intsOf (l : List Nat) : List Int := l.map fun (n : Nat) => (n : Int)
noncomputable def gty (g : Nat) : TypeId := (Tryz.prog.globals[g]?.map (·.type)).getD 0
noncomputable def gel (g : Nat) : TypeId := match Tryz.prog.underlying (gty g) with | some (.array _ e) => e | _ => 0
theorem tab0 {W : World} (h : laidMetH Tryz.prog Rows.topCommitsRow.laid W) : Lib.TabIs Tryz.prog W (nm 0) .u8 (intsOf T0) :=
  Lib.tabIs_of_head (rest := Rows.topCommitsRow.laid.drop 1) (g := 0) (t := gty 0) (n := 32) (e := gel 0) (by kernel_rfl) (by kernel_rfl) (by kernel_rfl) (by kernel_rfl) (by kernel_rfl) (by kernel_rfl) h
theorem cell_of {W : World} {name : String} {k : IntKind} {l : List Nat} {g : Nat} (h : Lib.TabIs Tryz.prog W name k (intsOf l)) (hg : Tryz.prog.globalNamed name = some g) (j : Nat) (hj : j < l.length) :
    W.cell? ⟨g, j, none⟩ = some (.int k ((l.getD j 0 : Nat) : Int)) := by
  rw [h.cell hg j (by simpa [intsOf] using hj)]
  simp [intsOf, List.getD_eq_getElem?_getD, hj]
set_option maxRecDepth 100000 in
theorem contract (H : Type) (enc : TypeId × Value → H) (W : World) (base : Nat) (args : Array Value) (ds gs : List (DataW H)) (before : List MemPlace)
    (hval : ∀ (j : Nat) t v, Tryz.f3.params[j]? = some t → args[j]? = some v → Value.okWide Tryz.prog W .any base t v)
    (hW : DataW.Whole enc Tryz.prog Tryz.f3.params.toList Rows.topCommitsSpec.vars false W args.toList ds gs before) (hL : laidMetH Tryz.prog Rows.topCommitsRow.laid W) :
    Calls Tryz.prog 3 args W fun e W' => ∃ v, e = .returned v ∧ Rows.topCommitsSpec.post enc Tryz.prog Tryz.f3 false true false false W args v W' := by
  have hW' := hW
  obtain ⟨p, q, hA0, hV, rfl, hfz, hnd⟩ := hW
  have hA : DataW.TrodAll enc Tryz.prog W 0 (fun _ => true) true Tryz.f3.params.toList args.toList ds p := hA0
  rw [Tryz.params3] at hA hval
  obtain ⟨v0, vs0, d0, ds0, p0, q0, hargs0, rfl, rfl, h0, r0⟩ := trodAll_cons hA
  obtain ⟨v1, vs1, d1, ds1, p1, q1, hargs1, rfl, rfl, h1, r1⟩ := trodAll_cons r0
  obtain ⟨rfl, rfl, rfl⟩ := trodAll_nil r1
  subst hargs1
  obtain rfl : args = #[v0, v1] := by cases args; simp_all
  obtain ⟨rfl, rfl⟩ := trodVars_none hV
  have hv0 : Value.okWide Tryz.prog W .any base 29 v0 := hval 0 29 v0 (by simp) (by simp)
  obtain ⟨k1_0, n1_0, m1_0, r1_0, w1_0, l1_0, k2_0, n2_0, m2_0, r2_0, w2_0, l2_0, s_0, l3_0, ok1_0, ok2_0, ok3_0, hrel0⟩ := open_deal (P := Tryz.prog) (t := 29) (td := 25) (tu := 5) (tw := 22) (t16 := 26) (tf := 23) (te := 43) (ts := 27) Tryz.underlying29 ⟨rfl, rfl⟩ ⟨rfl, rfl⟩ ⟨rfl, rfl⟩ Tryz.underlying25 ⟨rfl, rfl⟩ ⟨rfl, rfl⟩ ⟨rfl, rfl⟩ (by kernel_rfl) (by kernel_rfl) (by kernel_rfl) (by kernel_rfl) (by kernel_rfl) (by kernel_rfl) Tryz.underlying5 Tryz.underlying22 Tryz.underlying26 Tryz.underlying23 Tryz.underlying27 Tryz.underlying43 (by kernel_rfl) rfl rfl (by kernel_rfl) (by kernel_rfl) Tryz.underlying27 Tryz.underlying27 hv0 h0
  have hv1 : Value.okWide Tryz.prog W .any base 5 v1 := hval 1 5 v1 (by simp) (by simp)
  obtain ⟨l1, rfl, b1, c1⟩ := open_u8 (P := Tryz.prog) (t := 5) Tryz.underlying5 hv1
  have hrel1 : Rel (allSt W) W noGh (.int .u8 l1) _ := .int _ _ l1
  have hcall := law_true (f3_ok k1_0 n1_0 m1_0 r1_0 w1_0 l1_0 k2_0 n2_0 m2_0 r2_0 w2_0 l2_0 s_0 l3_0 l1 true (f3_true k1_0 n1_0 m1_0 r1_0 w1_0 l1_0 k2_0 n2_0 m2_0 r2_0 w2_0 l2_0 s_0 l3_0 l1 ok1_0 ok2_0 ok3_0 b1 c1)) W #[_, _] rfl (fun i hi => by
    have hi' : i < 2 := hi
    match i, hi' with
    | 0, _ => exact hrel0
    | 1, _ => exact hrel1) (fun pr hp => by
    simp only [List.mem_cons, List.not_mem_nil, or_false] at hp
    subst hp
    · exact rel_table (l := T0) (fun _ => rfl) (by decide) (fun j hj => cell_of (tab0 hL) (by kernel_rfl) j hj))
  refine hcall.mono fun e W' ⟨he, hb⟩ => ⟨_, he, ?_⟩
  exact post_law laidOut (by kernel_rfl) rfl Tryz.underlying4 rfl hW' rfl rfl rfl hb

set_option maxRecDepth 100000 in
theorem lifted (os : Os) (started : os.Started) (H : Type) (enc : TypeId × Value → H) (F : Stop.Interp) :
    ReturnsInHanded {} Tryz.checked os 3 .any ((OpenSpec.ofChange Rows.topCommitsSpec).preRow enc Tryz.prog Tryz.f3 Rows.topCommitsRow.domain false Rows.topCommitsRow.laid) (((OpenSpec.ofChange Rows.topCommitsSpec).at F).post enc Tryz.prog Tryz.f3 false true false false) := by
  obtain ⟨places, hx⟩ := reads os enc
  refine returnsInHanded_of_row (C := Tryz.checked) (s := OpenSpec.ofChange Rows.topCommitsSpec) own started (by kernel_rfl) Tryz.func3
    (witness_row_at (enc := enc) (C := Tryz.checked) false (laidWorld os) wit rfl (by kernel_rfl) (by kernel_rfl) (by kernel_rfl)
      (OpenSpec.preRow_of_cond 8 hx (by kernel_rfl) (fun k hk => by cases hk) (by kernel_rfl) (laid_met os))) ?_
  intro W base args ds gs before hval hW _ _ _ hL _ _
  exact contract H enc W base args ds gs before hval hW hL
theorem said : Rows.TopCommitsSaid :=
  OpenClaim.holds_of_cond 3 Tryz.f3 rfl rfl rfl rfl rfl rfl rfl ⟨rfl, rfl, rfl, rfl, rfl⟩ rfl rfl rfl rfl rfl (by kernel_rfl) Tryz.func3 (by kernel_rfl)
    (of_decide_eq_true (by kernel_rfl)) (by unfold Func.isWrapper; first | (rw [if_pos (by decide +kernel)]; kernel_rfl) | (rw [if_neg (by decide +kernel)]; exact ⟨rfl, rfl⟩))
    (fun os started H enc _ F => by rw [OpenClaim.pre_eq_preRow]; exact lifted os started H enc F)
theorem plain (f : FuncId) (fn : Func) (hf : Tryz.pinned.checked.prog.funcNamed Tryz.f3.name = some f) (hfn : Tryz.pinned.checked.prog.funcs[f]? = some fn) :
    false = Tryz.pinned.checked.prog.looks [] ∧ ∀ (j : Nat) t, fn.params[j]? = some t → Tryz.pinned.checked.prog.wantsStandIn t = false := by
  obtain rfl : f = 3 := Option.some.inj ((show Tryz.prog.funcNamed Tryz.f3.name = some 3 by kernel_rfl).symm.trans hf) |>.symm
  obtain rfl : fn = Tryz.f3 := (Option.some.inj (Tryz.func3.symm.trans hfn)).symm
  refine ⟨by kernel_rfl, fun j t ht => ?_⟩
  have hm := Array.mem_of_getElem? ht
  have hall : Tryz.f3.params.toList.all (fun t => !Tryz.prog.wantsStandIn t) = true := by kernel_rfl
  have hw : Tryz.prog.wantsStandIn t = false := by simpa using List.all_eq_true.1 hall t (Array.mem_toList_iff.2 hm)
  exact hw
theorem card : Rows.TopCommitsCardSaid :=
  Claim7.holds_tied_plain_at .later [] _ _ _ _ said (fun _ h => by cases h) (by kernel_rfl) (fun _ h => by cases h) topCommits_row_tie rfl ⟨rfl, rfl⟩ (by kernel_rfl) rfl plain (by kernel_rfl)
#print axioms card
end Go.Proofs.YtjgboohpholnbaaGreatDoor.topCommits
