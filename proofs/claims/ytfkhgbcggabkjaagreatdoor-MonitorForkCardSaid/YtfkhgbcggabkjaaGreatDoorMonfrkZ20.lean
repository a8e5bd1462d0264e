/- Part 20 of the proof: Card54_7a. -/
import Derived.Test.YtfkhgbcggabkjaaGreatDoorMonfrkZ19
import Derived.Test.YtfkhgbcggabkjaaGreatDoorCards
import Derived.Test.YtfkhgbcggabkjaaGreatDoorTie
import Derived.WalkKit
import Derived.ProofKit
import Derived.OpenShut
import Derived.Deep.DeepHandedRow
import Derived.Lib.LaidTab
namespace Go.Proofs.YtfkhgbcggabkjaaGreatDoor.monitorFork
open Go Go.ChangeShapes Go.WideShapes Go.ChangeAt Go.RowKit Go.Abs

theorem own : ownKnob Tryz.prog.godebug = none := by kernel_rfl
theorem laidOut : laidOutB Tryz.prog = true := by kernel_rfl
def wit : Array Value := #[.slice none 0 0]
def tabCells (k : IntKind) (l : List Nat) : Array Value := (l.map fun (n : Nat) => Value.int k (n : Int)).toArray
def lay (a : Array Value) : Obj → Obj
  | .cells _ t frozen => .cells a t frozen
  | o => o
noncomputable def low : Nat := (World.holding Tryz.prog default ⟨#[], #[], []⟩).heap.size
noncomputable def laidWorld (os : Os) : World :=
  { (World.holding Tryz.prog os ⟨#[.cells #[.string ⟨#[118, 97, 108, 117, 101, 32, 111, 117, 116, 32, 111, 102, 32, 114, 97, 110, 103, 101]⟩] 295, .cells #[.string ⟨#[105, 110, 118, 97, 108, 105, 100, 32, 115, 121, 110, 116, 97, 120]⟩] 295], #[], []⟩) with heap := ((((((((World.holding Tryz.prog os ⟨#[.cells #[.string ⟨#[118, 97, 108, 117, 101, 32, 111, 117, 116, 32, 111, 102, 32, 114, 97, 110, 103, 101]⟩] 295, .cells #[.string ⟨#[105, 110, 118, 97, 108, 105, 100, 32, 115, 121, 110, 116, 97, 120]⟩] 295], #[], []⟩).heap.modify 4 (lay (tabCells .u8 T4))).modify 5 (lay (tabCells .u8 T5))).modify 1 (lay (tabCells .u64 T1))).modify 8 (lay (tabCells .u8 T8))).modify 3 (lay #[.iface 293 (.pointer (some ⟨low + 0, 0, none⟩))])).modify 2 (lay #[.iface 293 (.pointer (some ⟨low + 1, 0, none⟩))])).modify 7 (lay (tabCells .u8 Go.Pinned.utf8FirstZ))) }
theorem laid_met (os : Os) : laidMet Tryz.prog Rows.monitorForkRow.laid ((laidWorld os).forCall (fun _ _ => 0) ⟨#[], wit, []⟩).memory :=
  laidMet_of_run' 8 (by kernel_rfl) (by kernel_rfl)
theorem reads (os : Os) {H : Type} (enc : TypeId × Value → H) : ∃ places, DataW.whole enc Tryz.prog ((laidWorld os).forCall (fun _ _ => 0) ⟨#[], wit, []⟩).memory Tryz.f7.params.toList Rows.monitorForkSpec.vars false wit.toList 8 = some ([.nil], [], places) :=
  ⟨[], by kernel_rfl⟩
set_option maxRecDepth 100000 in
theorem contract (H : Type) (enc : TypeId × Value → H) (W : World) (base : Nat) (args : Array Value) (ds gs : List (DataW H)) (before : List MemPlace)
    (hval : ∀ (j : Nat) t v, Tryz.f7.params[j]? = some t → args[j]? = some v → Value.okWide Tryz.prog W .any base t v)
    (hW : DataW.Whole enc Tryz.prog Tryz.f7.params.toList Rows.monitorForkSpec.vars false W args.toList ds gs before) (hL : laidMetH Tryz.prog Rows.monitorForkRow.laid W) :
    Calls Tryz.prog 7 args W fun e W' => ∃ v, e = .returned v ∧ Rows.monitorForkSpec.post enc Tryz.prog Tryz.f7 false true false false W args v W' := by
  have hW' := hW
  obtain ⟨p, q, hA0, hV, rfl, hfz, hnd⟩ := hW
  have hA : DataW.TrodAll enc Tryz.prog W 0 (fun _ => true) true Tryz.f7.params.toList args.toList ds p := hA0
  rw [Tryz.params7] at hA hval
  obtain ⟨v0, vs0, d0, ds0, p0, q0, hargs0, rfl, rfl, h0, r0⟩ := trodAll_cons hA
  obtain ⟨rfl, rfl, rfl⟩ := trodAll_nil r0
  obtain rfl : args = #[v0] := by cases args; simp_all
  obtain ⟨rfl, rfl⟩ := trodVars_none hV
  have hv0 : Value.okWide Tryz.prog W .any base 24 v0 := hval 0 24 v0 (by simp) (by simp)
  have oneSg : OneT Tryz.prog 41 := one_structB [3, 9] Tryz.underlying41 (fun u hu => by
    simp only [List.mem_cons, List.not_mem_nil, or_false] at hu
    rcases hu with rfl | rfl
    · exact one_int Tryz.underlying3
    · exact one_str Tryz.underlying9
    ) (by kernel_rfl) (by kernel_rfl)
  have oneSn : OneT Tryz.prog 47 := one_structB [3, 9, 29, 42, 43, 44, 45] Tryz.underlying47 (fun u hu => by
    simp only [List.mem_cons, List.not_mem_nil, or_false] at hu
    rcases hu with rfl | rfl | rfl | rfl | rfl | rfl | rfl
    · exact one_int Tryz.underlying3
    · exact one_str Tryz.underlying9
    · exact one_slice Tryz.underlying29
    · exact one_slice Tryz.underlying42
    · exact one_slice Tryz.underlying43
    · exact one_slice Tryz.underlying44
    · exact one_slice Tryz.underlying45
    ) (by kernel_rfl) (by kernel_rfl)
  have oneMg : OneT Tryz.prog 49 := one_structB [2, 3, 9, 41, 47, 29, 42, 43, 44, 45] Tryz.underlying49 (fun u hu => by
    simp only [List.mem_cons, List.not_mem_nil, or_false] at hu
    rcases hu with rfl | rfl | rfl | rfl | rfl | rfl | rfl | rfl | rfl | rfl
    · exact one_int Tryz.underlying2
    · exact one_int Tryz.underlying3
    · exact one_str Tryz.underlying9
    · exact oneSg
    · exact oneSn
    · exact one_slice Tryz.underlying29
    · exact one_slice Tryz.underlying42
    · exact one_slice Tryz.underlying43
    · exact one_slice Tryz.underlying44
    · exact one_slice Tryz.underlying45
    ) (by kernel_rfl) (by kernel_rfl)
  have onePt : OneT Tryz.prog 51 := one_structB [3, 9, 49] Tryz.underlying51 (fun u hu => by
    simp only [List.mem_cons, List.not_mem_nil, or_false] at hu
    rcases hu with rfl | rfl | rfl
    · exact one_int Tryz.underlying3
    · exact one_str Tryz.underlying9
    · exact oneMg
    ) (by kernel_rfl) (by kernel_rfl)
  obtain ⟨l0, hrel0, ok0, n0⟩ := open_rowsO (P := Tryz.prog) (t := 24) (e := 51) (bs := [false, false, false, false, false, true, true]) (sz := 28) (dA := default) (encA := eT51) okPt Tryz.underlying24 Tryz.underlying51 (by decide) (by kernel_rfl) (by decide) (by decide) onePt (fun i f hb hf => by
    match i, hb, hf with
    | 0, _, hf => cases hf; exact ⟨rfl, by kernel_rfl, by kernel_rfl⟩
    | 1, _, hf => cases hf; exact ⟨rfl, by kernel_rfl, by kernel_rfl⟩
    | 2, _, hf => cases hf; exact ⟨rfl, by kernel_rfl, by kernel_rfl⟩
    | 3, _, hf => cases hf; exact ⟨rfl, by kernel_rfl, by kernel_rfl⟩
    | 4, _, hf => cases hf; exact ⟨rfl, by kernel_rfl, by kernel_rfl⟩
    | 5, _, hf => cases hf; exact ⟨rfl, by kernel_rfl, by kernel_rfl⟩
    | 6, _, hf => cases hf; exact ⟨rfl, by kernel_rfl, by kernel_rfl⟩
    | _ + 7, hb, _ => exact absurd hb (by simp)) (fun a j h1 h2 => by
    match j, h1, h2 with
    | 7, _, _ => rfl
    | 8, _, _ => rfl
    | 9, _, _ => rfl
    | 10, _, _ => rfl
    | 11, _, _ => rfl
    | 12, _, _ => rfl
    | 13, _, _ => rfl
    | 14, _, _ => rfl
    | 15, _, _ => rfl
    | 16, _, _ => rfl
    | 17, _, _ => rfl
    | 18, _, _ => rfl
    | 19, _, _ => rfl
    | 20, _, _ => rfl
    | 21, _, _ => rfl
    | 22, _, _ => rfl
    | 23, _, _ => rfl
    | 24, _, _ => rfl
    | 25, _, _ => rfl
    | 26, _, _ => rfl
    | 27, _, _ => rfl
    | _ + 28, _, h2 => omega
    ) (mkPt (encA := eT51) (fun a i hi => by
    match i, hi with
    | 0, _ => rfl
    | 1, _ => rfl
    | 2, _ => rfl
    | 3, _ => rfl
    | 4, _ => rfl
    | 5, _ => rfl
    | 6, _ => rfl
    )) hv0 h0
  have hcall := law_true (f7_ok l0 true (f7_true l0 n0)) W #[_] rfl (fun i hi => by
    have hi' : i < 1 := hi
    match i, hi' with
    | 0, _ => exact hrel0) (fun pr hp => by
    exact absurd hp List.not_mem_nil
)
  refine hcall.mono fun e W' ⟨he, hb⟩ => ⟨_, he, ?_⟩
  exact post_law laidOut (by kernel_rfl) rfl Tryz.underlying4 rfl hW' rfl rfl rfl hb

set_option maxRecDepth 100000 in
theorem lifted (os : Os) (started : os.Started) (H : Type) (enc : TypeId × Value → H) (F : Stop.Interp) :
    ReturnsInHanded {} Tryz.checked os 7 .any ((OpenSpec.ofChange Rows.monitorForkSpec).preRow enc Tryz.prog Tryz.f7 Rows.monitorForkRow.domain false Rows.monitorForkRow.laid) (((OpenSpec.ofChange Rows.monitorForkSpec).at F).post enc Tryz.prog Tryz.f7 false true false false) := by
  obtain ⟨places, hx⟩ := reads os enc
  refine returnsInHanded_of_row (C := Tryz.checked) (s := OpenSpec.ofChange Rows.monitorForkSpec) own started (by kernel_rfl) Tryz.func7
    (witness_row_at (enc := enc) (C := Tryz.checked) false (laidWorld os) wit rfl (by kernel_rfl) (by kernel_rfl) (by kernel_rfl)
      (OpenSpec.preRow_of_cond 8 hx (by kernel_rfl) (fun k hk => by cases hk) (by kernel_rfl) (laid_met os))) ?_
  intro W base args ds gs before hval hW _ _ _ hL _ _
  exact contract H enc W base args ds gs before hval hW hL
end Go.Proofs.YtfkhgbcggabkjaaGreatDoor.monitorFork
