/- HistoryErrors: the card. -/
import Derived.Test.YtkeioaggjaeicaaGreatDoorHerrZ28
import Derived.Test.YtkeioaggjaeicaaGreatDoorCards
import Derived.Test.YtkeioaggjaeicaaGreatDoorTie
import Derived.WalkKit
import Derived.ProofKit
import Derived.OpenShut
import Derived.Deep.DeepHandedRow
import Derived.Lib.LaidTab
namespace Go.Proofs.YtkeioaggjaeicaaGreatDoor.historyErrorsUpto
open Go Go.ChangeShapes Go.WideShapes Go.ChangeAt Go.RowKit Go.Abs

theorem own : ownKnob Tryz.prog.godebug = none := by kernel_rfl
theorem laidOut : laidOutB Tryz.prog = true := by kernel_rfl
def wit : Array Value := #[.slice none 0 0]
def tabCells (k : IntKind) (l : List Nat) : Array Value := (l.map fun (n : Nat) => Value.int k (n : Int)).toArray
def lay (a : Array Value) : Obj → Obj
  | .cells _ t frozen => .cells a t frozen
  | o => o
noncomputable def low : Nat := (World.holding Tryz.prog default ⟨#[], #[], []⟩).heap.size
noncomputable def laidWorld (os : Os) : World :=
  { (World.holding Tryz.prog os ⟨#[.cells #[.string ⟨#[118, 97, 108, 117, 101, 32, 111, 117, 116, 32, 111, 102, 32, 114, 97, 110, 103, 101]⟩] 221, .cells #[.string ⟨#[105, 110, 118, 97, 108, 105, 100, 32, 115, 121, 110, 116, 97, 120]⟩] 221], #[], []⟩) with heap := ((((((((World.holding Tryz.prog os ⟨#[.cells #[.string ⟨#[118, 97, 108, 117, 101, 32, 111, 117, 116, 32, 111, 102, 32, 114, 97, 110, 103, 101]⟩] 221, .cells #[.string ⟨#[105, 110, 118, 97, 108, 105, 100, 32, 115, 121, 110, 116, 97, 120]⟩] 221], #[], []⟩).heap.modify 6 (lay (tabCells .u8 T6))).modify 7 (lay (tabCells .u8 T7))).modify 3 (lay (tabCells .u64 T3))).modify 5 (lay (tabCells .u8 T5))).modify 2 (lay #[.iface 219 (.pointer (some ⟨low + 0, 0, none⟩))])).modify 1 (lay #[.iface 219 (.pointer (some ⟨low + 1, 0, none⟩))])).modify 4 (lay (tabCells .u8 Go.Pinned.utf8FirstZ))) }
theorem laid_met (os : Os) : laidMet Tryz.prog Rows.historyErrorsUptoRow.laid ((laidWorld os).forCall (fun _ _ => 0) ⟨#[], wit, []⟩).memory :=
  laidMet_of_run' 8 (by kernel_rfl) (by kernel_rfl)
theorem reads (os : Os) {H : Type} (enc : TypeId × Value → H) : ∃ places, DataW.whole enc Tryz.prog ((laidWorld os).forCall (fun _ _ => 0) ⟨#[], wit, []⟩).memory Tryz.f8.params.toList Rows.historyErrorsSpec.vars false wit.toList 8 = some ([.nil], [], places) :=
  ⟨[], by kernel_rfl⟩
noncomputable def nm : Nat → String := fun k => (Rows.historyErrorsUptoRow.laid.map Prod.fst).getD k ""
theorem laidMet_tl {P : Program} {x : String × DataW Unit} {rest : List (String × DataW Unit)} {W : World} (h : laidMet P (x :: rest) W) : laidMet P rest W := by
  obtain ⟨ps, ⟨g', t', cs, fuel, p, q, hg', ht', hvar, hd, hrest, he⟩, hnd, hcells⟩ := h
  subst he
  exact ⟨q, hrest, (List.nodup_append.1 hnd).2.1, fun b off hb => hcells b off (List.mem_append_right _ hb)⟩
def intsOf (l : List Nat) : List Int := l.map fun (n : Nat) => (n : Int)
noncomputable def gty (g : Nat) : TypeId := (Tryz.prog.globals[g]?.map (·.type)).getD 0
noncomputable def gel (g : Nat) : TypeId := match Tryz.prog.underlying (gty g) with | some (.array _ e) => e | _ => 0
theorem tab3 {W : World} (h : laidMetH Tryz.prog Rows.historyErrorsUptoRow.laid W) : Lib.TabIs Tryz.prog W (nm 2) .u64 (intsOf T3) :=
  Lib.tabIs_of_head (rest := Rows.historyErrorsUptoRow.laid.drop 3) (g := 3) (t := gty 3) (n := 20) (e := gel 3) (by kernel_rfl) (by kernel_rfl) (by kernel_rfl) (by kernel_rfl) (by kernel_rfl) (by kernel_rfl) (laidMet_tl (laidMet_tl h))
theorem cell_of {W : World} {name : String} {k : IntKind} {l : List Nat} {g : Nat} (h : Lib.TabIs Tryz.prog W name k (intsOf l)) (hg : Tryz.prog.globalNamed name = some g) (j : Nat) (hj : j < l.length) :
    W.cell? ⟨g, j, none⟩ = some (.int k ((l.getD j 0 : Nat) : Int)) := by
  rw [h.cell hg j (by simpa [intsOf] using hj)]
  simp [intsOf, List.getD_eq_getElem?_getD, hj]
theorem tab3t {W : World} (h : laidMetH Tryz.prog Rows.historyErrorsUptoRow.laid W) : Lib.TabIs Tryz.prog W (nm 2) .u64 Lib.pow10Tab := by
  rw [← show intsOf T3 = Lib.pow10Tab from by kernel_rfl]; exact tab3 h
theorem bulk_pos {H : Type} (x : DataW H) : 1 ≤ Rows.uptoBulk x := by
  cases x with
  | lit l => cases l <;> simp [Rows.uptoBulk]
  | _ => simp [Rows.uptoBulk]
theorem bulk_mem {H : Type} : ∀ {L : List (DataW H)} {x : DataW H}, x ∈ L → Rows.uptoBulk x ≤ Rows.uptoBulkAll L
  | [], _, h => absurd h List.not_mem_nil
  | y :: L, x, h => by
    rw [Rows.uptoBulkAll]
    rcases List.mem_cons.1 h with e | h
    · rw [e]; omega
    · have := bulk_mem h; omega
theorem bulk_len {H : Type} : ∀ L : List (DataW H), L.length ≤ Rows.uptoBulkAll L
  | [] => Nat.le_refl _
  | y :: L => by
    rw [Rows.uptoBulkAll, List.length_cons]
    have := bulk_len L; have := bulk_pos y; omega
theorem small {H : Type} {W : World} {d : DataW H} {l : List (Int × Int × Int × List UInt8 × List UInt8)}
    (z : l = [] ∨ ∃ (D : List (DataW H)) (sp : List (DataW H)), d = .slice D sp ∧ D.length = l.length ∧ ∀ i, i < l.length → ∃ parts : List (DataW H), .agg parts ∈ D ∧ ∀ j, j < [false, false, false, true, true].length → [false, false, false, true, true].getD j true = true → ∃ s : ByteArray, .lit (.string s.data.toList) ∈ parts ∧ Rel (allSt W) W noGh (((fun (a : Int × Int × Int × List UInt8 × List UInt8) => ([.int .i64 a.1, .int .i64 a.2.1, .int .i64 a.2.2.1, .str a.2.2.2.1, .str a.2.2.2.2] : List V)) (l.getD i default)).getD j .any) (.string s))
    (hk : Rows.uptoBulkAll [d] ≤ 1048576) : l.length ≤ 1048576 ∧ ∀ x ∈ l, x.2.2.2.1.length ≤ 1048576 := by
  rcases z with rfl | ⟨D, sp, rfl, hl, hz⟩
  · exact ⟨by simp, fun x hx => absurd hx List.not_mem_nil⟩
  · simp only [Rows.uptoBulkAll, Rows.uptoBulk] at hk
    have h1 := bulk_len D
    refine ⟨by omega, fun x hx => ?_⟩
    obtain ⟨i, hi, rfl⟩ := List.getElem_of_mem hx
    obtain ⟨parts, p1, p2⟩ := hz i hi
    obtain ⟨s, s1, s2⟩ := p2 3 (by decide) rfl
    have e : l.getD i default = l[i] := by rw [List.getD_eq_getElem?_getD, List.getElem?_eq_getElem hi]; rfl
    rw [e] at s2
    have b1 := bulk_mem p1
    have b2 := bulk_mem s1
    simp only [Rows.uptoBulk] at b1 b2
    have s3 : Rel (allSt W) W noGh (.str l[i].2.2.2.1) (.string s) := s2
    have h3 : s.data.toList = l[i].2.2.2.1 := by cases s3; assumption
    rw [← h3]
    omega
set_option maxRecDepth 100000 in
theorem contract (H : Type) (enc : TypeId × Value → H) (W : World) (base : Nat) (args : Array Value) (ds gs : List (DataW H)) (before : List MemPlace)
    (hval : ∀ (j : Nat) t v, Tryz.f8.params[j]? = some t → args[j]? = some v → Value.okWide Tryz.prog W .any base t v)
    (hW : DataW.Whole enc Tryz.prog Tryz.f8.params.toList Rows.historyErrorsSpec.vars false W args.toList ds gs before) (hL : laidMetH Tryz.prog Rows.historyErrorsUptoRow.laid W) (hk : Rows.uptoBulkAll (ds ++ gs) ≤ 1048576) :
    Calls Tryz.prog 8 args W fun e W' => ∃ v, e = .returned v ∧ Rows.historyErrorsSpec.post enc Tryz.prog Tryz.f8 false true false false W args v W' := by
  have hW' := hW
  obtain ⟨p, q, hA0, hV, rfl, hfz, hnd⟩ := hW
  have hA : DataW.TrodAll enc Tryz.prog W 0 (fun _ => true) true Tryz.f8.params.toList args.toList ds p := hA0
  rw [Tryz.params8] at hA hval
  obtain ⟨v0, vs0, d0, ds0, p0, q0, hargs0, rfl, rfl, h0, r0⟩ := trodAll_cons hA
  obtain ⟨rfl, rfl, rfl⟩ := trodAll_nil r0
  obtain rfl : args = #[v0] := by cases args; simp_all
  obtain ⟨rfl, rfl⟩ := trodVars_none hV
  have hv0 : Value.okWide Tryz.prog W .any base 22 v0 := hval 0 22 v0 (by simp) (by simp)
  obtain ⟨l0, hrel0, _, _, z0⟩ := open_rowsB (P := Tryz.prog) (t := 22) (e := 31) (bs := [false, false, false, true, true]) (dA := default) (encA := fun (a : Int × Int × Int × List UInt8 × List UInt8) => [.int .i64 a.1, .int .i64 a.2.1, .int .i64 a.2.2.1, .str a.2.2.2.1, .str a.2.2.2.2]) (fun _ => True) Tryz.underlying22 Tryz.underlying31 rfl (by kernel_rfl) (by decide) (fun i f hf => by
    match i, hf with
    | 0, hf => cases hf; exact ⟨rfl, by kernel_rfl, by kernel_rfl⟩
    | 1, hf => cases hf; exact ⟨rfl, by kernel_rfl, by kernel_rfl⟩
    | 2, hf => cases hf; exact ⟨rfl, by kernel_rfl, by kernel_rfl⟩
    | 3, hf => cases hf; exact ⟨rfl, by kernel_rfl, by kernel_rfl⟩
    | 4, hf => cases hf; exact ⟨rfl, by kernel_rfl, by kernel_rfl⟩
    | _ + 5, hf => simp at hf) mkH hv0 h0
  have hcall := law_true (f8_ok l0 true (f8_true l0 (small z0 hk).1 (small z0 hk).2)) W #[_] rfl (fun i hi => by
    have hi' : i < 1 := hi
    match i, hi' with
    | 0, _ => exact hrel0) (fun pr hp => by
    simp only [List.mem_cons, List.not_mem_nil, or_false] at hp
    subst hp
    · exact rel_tab (tab3t hL) (by kernel_rfl))
  refine hcall.mono fun e W' ⟨he, hb⟩ => ⟨_, he, ?_⟩
  exact post_law laidOut (by kernel_rfl) rfl Tryz.underlying4 rfl hW' rfl rfl rfl hb

set_option maxRecDepth 100000 in
theorem lifted (os : Os) (started : os.Started) (H : Type) (enc : TypeId × Value → H) (F : Stop.Interp) :
    ReturnsInHanded {} Tryz.checked os 8 .any ((Rows.OpenSpec.upto Rows.historyErrorsSpec).preRow enc Tryz.prog Tryz.f8 Rows.historyErrorsUptoRow.domain false Rows.historyErrorsUptoRow.laid) (((Rows.OpenSpec.upto Rows.historyErrorsSpec).at F).post enc Tryz.prog Tryz.f8 false true false false) := by
  obtain ⟨places, hx⟩ := reads os enc
  refine returnsInHanded_of_row (C := Tryz.checked) (s := Rows.OpenSpec.upto Rows.historyErrorsSpec) own started (by kernel_rfl) Tryz.func8
    (witness_row_at (enc := enc) (C := Tryz.checked) false (laidWorld os) wit rfl (by kernel_rfl) (by kernel_rfl) (by kernel_rfl)
      (OpenSpec.preRow_of_cond 8 hx (by kernel_rfl) (fun k hk => by cases hk; kernel_rfl) (by kernel_rfl) (laid_met os))) ?_
  intro W base args ds gs before hval hW _ hk _ hL _ _
  exact contract H enc W base args ds gs before hval hW hL (of_decide_eq_true (hk _ rfl))
theorem said : Rows.HistoryErrorsUptoSaid :=
  OpenClaim.holds_of_cond 8 Tryz.f8 rfl rfl rfl rfl rfl rfl rfl ⟨rfl, rfl, rfl, rfl, rfl⟩ rfl rfl rfl rfl rfl (by kernel_rfl) Tryz.func8 (by kernel_rfl)
    (of_decide_eq_true (by kernel_rfl)) (by unfold Func.isWrapper; first | (rw [if_pos (by decide +kernel)]; kernel_rfl) | (rw [if_neg (by decide +kernel)]; exact ⟨rfl, rfl⟩))
    (fun os started H enc _ F => by rw [OpenClaim.pre_eq_preRow]; exact lifted os started H enc F)
theorem plain (f : FuncId) (fn : Func) (hf : Tryz.pinned.checked.prog.funcNamed Tryz.f8.name = some f) (hfn : Tryz.pinned.checked.prog.funcs[f]? = some fn) :
    true = Tryz.pinned.checked.prog.looks [] ∧ ∀ (j : Nat) t, fn.params[j]? = some t → Tryz.pinned.checked.prog.wantsStandIn t = false := by
  obtain rfl : f = 8 := Option.some.inj ((show Tryz.prog.funcNamed Tryz.f8.name = some 8 by kernel_rfl).symm.trans hf) |>.symm
  obtain rfl : fn = Tryz.f8 := (Option.some.inj (Tryz.func8.symm.trans hfn)).symm
  refine ⟨by kernel_rfl, fun j t ht => ?_⟩
  have hm := Array.mem_of_getElem? ht
  have hall : Tryz.f8.params.toList.all (fun t => !Tryz.prog.wantsStandIn t) = true := by kernel_rfl
  have hw : Tryz.prog.wantsStandIn t = false := by simpa using List.all_eq_true.1 hall t (Array.mem_toList_iff.2 hm)
  exact hw
theorem card : Rows.HistoryErrorsUptoCardSaid :=
  Claim7.holds_tied_plain_at .later [] _ _ _ _ said (fun _ h => by cases h) (by kernel_rfl) (fun _ h => by cases h) historyErrorsUpto_row_tie rfl ⟨rfl, rfl⟩ (by kernel_rfl) rfl plain (by kernel_rfl)
#print axioms card
end Go.Proofs.YtkeioaggjaeicaaGreatDoor.historyErrorsUpto
