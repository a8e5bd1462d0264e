/- FaultText: the card. -/
import Derived.Test.YtmcmhjdmilgoeaaGreatDoorFlttxtZ34
import Derived.Test.YtmcmhjdmilgoeaaGreatDoorCards
import Derived.Test.YtmcmhjdmilgoeaaGreatDoorTie
import Derived.WalkKit
import Derived.ProofKit
import Derived.OpenShut
import Derived.Deep.DeepHandedRow
import Derived.Lib.LaidTab
namespace Go.Proofs.YtmcmhjdmilgoeaaGreatDoor.faultText
open Go Go.ChangeShapes Go.WideShapes Go.ChangeAt Go.RowKit Go.Abs

theorem own : ownKnob Tryz.prog.godebug = none := by kernel_rfl
theorem laidOut : laidOutB Tryz.prog = true := by kernel_rfl
def wit : Array Value := #[.slice none 0 0]
def tabCells (k : IntKind) (l : List Nat) : Array Value := (l.map fun (n : Nat) => Value.int k (n : Int)).toArray
def lay (a : Array Value) : Obj → Obj
  | .cells _ t frozen => .cells a t frozen
  | o => o
noncomputable def low : Nat := (World.holding Tryz.prog default ⟨#[], #[], []⟩).heap.size
noncomputable def laidWorld (os : Os) : World :=
  { (World.holding Tryz.prog os ⟨#[.cells #[.string ⟨#[118, 97, 108, 117, 101, 32, 111, 117, 116, 32, 111, 102, 32, 114, 97, 110, 103, 101]⟩] 194, .cells #[.string ⟨#[105, 110, 118, 97, 108, 105, 100, 32, 115, 121, 110, 116, 97, 120]⟩] 194], #[], []⟩) with heap := ((((((((World.holding Tryz.prog os ⟨#[.cells #[.string ⟨#[118, 97, 108, 117, 101, 32, 111, 117, 116, 32, 111, 102, 32, 114, 97, 110, 103, 101]⟩] 194, .cells #[.string ⟨#[105, 110, 118, 97, 108, 105, 100, 32, 115, 121, 110, 116, 97, 120]⟩] 194], #[], []⟩).heap.modify 0 (lay (tabCells .u8 T0))).modify 7 (lay (tabCells .u8 T7))).modify 6 (lay (tabCells .u64 T6))).modify 3 (lay (tabCells .u8 [128, 191, 160, 191, 128, 159, 144, 191, 128, 143, 0, 0, 0, 0, 0, 0, 0, 0, 0, 0, 0, 0, 0, 0, 0, 0, 0, 0, 0, 0, 0, 0]))).modify 5 (lay #[.iface 192 (.pointer (some ⟨low + 0, 0, none⟩))])).modify 4 (lay #[.iface 192 (.pointer (some ⟨low + 1, 0, none⟩))])).modify 2 (lay (tabCells .u8 (List.replicate 128 240 ++ List.replicate 66 241 ++ List.replicate 30 2 ++ [19] ++ List.replicate 12 3 ++ [35, 3, 3, 52, 4, 4, 4, 68] ++ List.replicate 11 241)))) }
theorem laid_met (os : Os) : laidMet Tryz.prog Rows.faultTextRow.laid ((laidWorld os).forCall (fun _ _ => 0) ⟨#[], wit, []⟩).memory :=
  laidMet_of_run' 8 (by kernel_rfl) (by kernel_rfl)
theorem reads (os : Os) {H : Type} (enc : TypeId × Value → H) : ∃ places, DataW.whole enc Tryz.prog ((laidWorld os).forCall (fun _ _ => 0) ⟨#[], wit, []⟩).memory Tryz.f10.params.toList Rows.faultTextSpec.vars false wit.toList 8 = some ([.nil], [], places) :=
  ⟨[], by kernel_rfl⟩
noncomputable def nm : Nat → String := fun k => (Rows.faultTextRow.laid.map Prod.fst).getD k ""
theorem laidMet_tl {P : Program} {x : String × DataW Unit} {rest : List (String × DataW Unit)} {W : World} (h : laidMet P (x :: rest) W) : laidMet P rest W := by
  obtain ⟨ps, ⟨g', t', cs, fuel, p, q, hg', ht', hvar, hd, hrest, he⟩, hnd, hcells⟩ := h
  subst he
  exact ⟨q, hrest, (List.nodup_append.1 hnd).2.1, fun b off hb => hcells b off (List.mem_append_right _ hb)⟩
def intsOf (l : List Nat) : List Int := l.map fun (n : Nat) => (n : Int)
noncomputable def gty (g : Nat) : TypeId := (Tryz.prog.globals[g]?.map (·.type)).getD 0
noncomputable def gel (g : Nat) : TypeId := match Tryz.prog.underlying (gty g) with | some (.array _ e) => e | _ => 0
theorem tab0 {W : World} (h : laidMetH Tryz.prog Rows.faultTextRow.laid W) : Lib.TabIs Tryz.prog W (nm 0) .u8 (intsOf T0) :=
  Lib.tabIs_of_head (rest := Rows.faultTextRow.laid.drop 1) (g := 0) (t := gty 0) (n := 32) (e := gel 0) (by kernel_rfl) (by kernel_rfl) (by kernel_rfl) (by kernel_rfl) (by kernel_rfl) (by kernel_rfl) h
theorem tab6 {W : World} (h : laidMetH Tryz.prog Rows.faultTextRow.laid W) : Lib.TabIs Tryz.prog W (nm 2) .u64 (intsOf T6) :=
  Lib.tabIs_of_head (rest := Rows.faultTextRow.laid.drop 3) (g := 6) (t := gty 6) (n := 20) (e := gel 6) (by kernel_rfl) (by kernel_rfl) (by kernel_rfl) (by kernel_rfl) (by kernel_rfl) (by kernel_rfl) (laidMet_tl (laidMet_tl h))
theorem starE : "*" ++ "errors.errorString" = "*errors.errorString" := by decide
theorem rowE (u : TypeId) (h : Tryz.prog.typeName? 3 u = some "*errors.errorString") : u = 192 :=
  typeName_ptr_named (nm := "errors.errorString") (by rw [starE]; kernel_rfl) (by kernel_rfl) (by decide) u (by rw [starE]; exact h)
theorem tab5 {W : World} (h : laidMetH Tryz.prog Rows.faultTextRow.laid W) : ∃ x, W.var? Tryz.prog (nm 4) = some #[.iface 192 x] := by
  obtain ⟨a, s, h1, _⟩ := laid_sentinel (P := Tryz.prog) (r := Rows.faultTextRow.laid.drop 5) (g := 5) (ti := 98) (tp := 192) (te := 194) (ts := 9) (text := [118, 97, 108, 117, 101, 32, 111, 117, 116, 32, 111, 102, 32, 114, 97, 110, 103, 101]) (laidMet_tl (laidMet_tl (laidMet_tl (laidMet_tl h)))) (by kernel_rfl) (by kernel_rfl) Tryz.underlying98 rowE Tryz.underlying192 Tryz.underlying194 rfl rfl Tryz.underlying9 (by kernel_rfl) (by kernel_rfl)
  exact ⟨_, h1⟩
theorem tab4 {W : World} (h : laidMetH Tryz.prog Rows.faultTextRow.laid W) : ∃ x, W.var? Tryz.prog (nm 5) = some #[.iface 192 x] := by
  obtain ⟨a, s, h1, _⟩ := laid_sentinel (P := Tryz.prog) (r := Rows.faultTextRow.laid.drop 6) (g := 4) (ti := 98) (tp := 192) (te := 194) (ts := 9) (text := [105, 110, 118, 97, 108, 105, 100, 32, 115, 121, 110, 116, 97, 120]) (laidMet_tl (laidMet_tl (laidMet_tl (laidMet_tl (laidMet_tl h))))) (by kernel_rfl) (by kernel_rfl) Tryz.underlying98 rowE Tryz.underlying192 Tryz.underlying194 rfl rfl Tryz.underlying9 (by kernel_rfl) (by kernel_rfl)
  exact ⟨_, h1⟩
theorem cell_of {W : World} {name : String} {k : IntKind} {l : List Nat} {g : Nat} (h : Lib.TabIs Tryz.prog W name k (intsOf l)) (hg : Tryz.prog.globalNamed name = some g) (j : Nat) (hj : j < l.length) :
    W.cell? ⟨g, j, none⟩ = some (.int k ((l.getD j 0 : Nat) : Int)) := by
  rw [h.cell hg j (by simpa [intsOf] using hj)]
  simp [intsOf, List.getD_eq_getElem?_getD, hj]
theorem tab6t {W : World} (h : laidMetH Tryz.prog Rows.faultTextRow.laid W) : Lib.TabIs Tryz.prog W (nm 2) .u64 Lib.pow10Tab := by
  rw [← show intsOf T6 = Lib.pow10Tab from by kernel_rfl]; exact tab6 h
set_option maxRecDepth 100000 in
theorem contract (H : Type) (enc : TypeId × Value → H) (W : World) (base : Nat) (args : Array Value) (ds gs : List (DataW H)) (before : List MemPlace)
    (hval : ∀ (j : Nat) t v, Tryz.f10.params[j]? = some t → args[j]? = some v → Value.okWide Tryz.prog W .any base t v)
    (hW : DataW.Whole enc Tryz.prog Tryz.f10.params.toList Rows.faultTextSpec.vars false W args.toList ds gs before) (hL : laidMetH Tryz.prog Rows.faultTextRow.laid W) (hsh : W.ShapedOpen Tryz.prog) :
    Calls Tryz.prog 10 args W fun e W' => ∃ v, e = .returned v ∧ Rows.faultTextSpec.post enc Tryz.prog Tryz.f10 false true false false W args v W' := by
  have hW' := hW
  obtain ⟨p, q, hA0, hV, rfl, hfz, hnd⟩ := hW
  have hA : DataW.TrodAll enc Tryz.prog W 0 (fun _ => true) true Tryz.f10.params.toList args.toList ds p := hA0
  rw [Tryz.params10] at hA hval
  obtain ⟨mx, hmx⟩ := Go.Proofs.cell_of_shapedOpen_int (g := 1) (zero := #[.int .i64 0]) (t := 3) hsh (of_decide_eq_true (by kernel_rfl)) (by kernel_rfl) rfl (by kernel_rfl) (by kernel_rfl) Tryz.underlying3
  obtain ⟨v0, vs0, d0, ds0, p0, q0, hargs0, rfl, rfl, h0, r0⟩ := trodAll_cons hA
  obtain ⟨rfl, rfl, rfl⟩ := trodAll_nil r0
  obtain rfl : args = #[v0] := by cases args; simp_all
  obtain ⟨rfl, rfl⟩ := trodVars_none hV
  have hv0 : Value.okWide Tryz.prog W .any base 22 v0 := hval 0 22 v0 (by simp) (by simp)
  obtain ⟨l0, hrel0⟩ := open_pairs (P := Tryz.prog) (t := 22) (e := 30) Tryz.underlying22 Tryz.underlying30 (by kernel_rfl) rfl rfl (by kernel_rfl) (by kernel_rfl) Tryz.underlying28 Tryz.underlying28 hv0 h0
  have hcall := law_true (f10_ok (mxl := mx) l0 true (f10_true l0)) W #[_] rfl (fun i hi => by
    have hi' : i < 1 := hi
    match i, hi' with
    | 0, _ => exact hrel0) (fun pr hp => by
    simp only [List.mem_cons, List.not_mem_nil, or_false] at hp
    rcases hp with rfl | rfl | rfl | rfl | rfl
    · exact rel_table (l := T0) (fun _ => rfl) (by decide) (fun j hj => cell_of (tab0 hL) (by kernel_rfl) j hj)
    · exact rel_intg hmx
    · obtain ⟨x, hx⟩ := tab4 hL; exact rel_errg (by kernel_rfl) hx
    · obtain ⟨x, hx⟩ := tab5 hL; exact rel_errg (by kernel_rfl) hx
    · exact rel_tab (tab6t hL) (by kernel_rfl))
  refine hcall.mono fun e W' ⟨he, hb⟩ => ⟨_, he, ?_⟩
  exact post_law laidOut (by kernel_rfl) rfl Tryz.underlying4 rfl hW' rfl rfl rfl hb

set_option maxRecDepth 100000 in
theorem lifted (os : Os) (started : os.Started) (H : Type) (enc : TypeId × Value → H) (F : Stop.Interp) :
    ReturnsInHanded {} Tryz.checked os 10 .any ((OpenSpec.ofChange Rows.faultTextSpec).preRow enc Tryz.prog Tryz.f10 Rows.faultTextRow.domain false Rows.faultTextRow.laid) (((OpenSpec.ofChange Rows.faultTextSpec).at F).post enc Tryz.prog Tryz.f10 false true false false) := by
  obtain ⟨places, hx⟩ := reads os enc
  refine returnsInHanded_of_row (C := Tryz.checked) (s := OpenSpec.ofChange Rows.faultTextSpec) own started (by kernel_rfl) Tryz.func10
    (witness_row_at (enc := enc) (C := Tryz.checked) false (laidWorld os) wit rfl (by kernel_rfl) (by kernel_rfl) (by kernel_rfl)
      (OpenSpec.preRow_of_cond 8 hx (by kernel_rfl) (fun k hk => by cases hk) (by kernel_rfl) (laid_met os))) ?_
  intro W base args ds gs before hval hW _ _ _ hL hsh _
  exact contract H enc W base args ds gs before hval hW hL hsh
theorem said : Rows.FaultTextSaid :=
  OpenClaim.holds_of_cond 10 Tryz.f10 rfl rfl rfl rfl rfl rfl rfl ⟨rfl, rfl, rfl, rfl, rfl⟩ rfl rfl rfl rfl rfl (by kernel_rfl) Tryz.func10 (by kernel_rfl)
    (of_decide_eq_true (by kernel_rfl)) (by unfold Func.isWrapper; first | (rw [if_pos (by decide +kernel)]; kernel_rfl) | (rw [if_neg (by decide +kernel)]; exact ⟨rfl, rfl⟩))
    (fun os started H enc _ F => by rw [OpenClaim.pre_eq_preRow]; exact lifted os started H enc F)
theorem plain (f : FuncId) (fn : Func) (hf : Tryz.pinned.checked.prog.funcNamed Tryz.f10.name = some f) (hfn : Tryz.pinned.checked.prog.funcs[f]? = some fn) :
    true = Tryz.pinned.checked.prog.looks [] ∧ ∀ (j : Nat) t, fn.params[j]? = some t → Tryz.pinned.checked.prog.wantsStandIn t = false := by
  obtain rfl : f = 10 := Option.some.inj ((show Tryz.prog.funcNamed Tryz.f10.name = some 10 by kernel_rfl).symm.trans hf) |>.symm
  obtain rfl : fn = Tryz.f10 := (Option.some.inj (Tryz.func10.symm.trans hfn)).symm
  refine ⟨by kernel_rfl, fun j t ht => ?_⟩
  have hm := Array.mem_of_getElem? ht
  have hall : Tryz.f10.params.toList.all (fun t => !Tryz.prog.wantsStandIn t) = true := by kernel_rfl
  have hw : Tryz.prog.wantsStandIn t = false := by simpa using List.all_eq_true.1 hall t (Array.mem_toList_iff.2 hm)
  exact hw
theorem card : Rows.FaultTextCardSaid :=
  Claim7.holds_tied_plain_at .later [] _ _ _ _ said (fun _ h => by cases h) (by kernel_rfl) (fun _ h => by cases h) faultText_row_tie rfl ⟨rfl, rfl⟩ (by kernel_rfl) rfl plain (by kernel_rfl)
#print axioms card
end Go.Proofs.YtmcmhjdmilgoeaaGreatDoor.faultText
