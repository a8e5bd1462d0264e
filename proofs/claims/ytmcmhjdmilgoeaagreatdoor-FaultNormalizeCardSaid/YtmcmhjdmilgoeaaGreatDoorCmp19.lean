/- slices.SortFunc at sets by set.Compare. -/
import Derived.Test.YtmcmhjdmilgoeaaGreatDoorPlC19
import Derived.Test.YtmcmhjdmilgoeaaGreatDoorAbsD1
import Derived.Test.YtmcmhjdmilgoeaaGreatDoorSrt1
import Derived.Test.YtmcmhjdmilgoeaaGreatDoorSrtK
import Derived.Test.YtmcmhjdmilgoeaaGreatDoorLay19
namespace Go.Abs
open Go Go.Proofs Go.RowKit Go.Sort
set_option maxHeartbeats 4000000
theorem swoS : SWO (ltOf cmpS) where
  irrefl x := by
    have h := ltS_key (a := x) (b := x)
    unfold ltOf; rw [cmpS_lt]; simpa using h
  trans x y z h1 h2 := by
    unfold ltOf at *; rw [cmpS_lt, ltS_key] at *; omega
  ntrans x y z h1 h2 := by
    unfold ltOf at *; rw [cmpS_lt] at *
    rw [Bool.eq_false_iff, Ne, ltS_key] at *; omega
theorem key_inj (x y : BitVec 16) (h : key x = key y) : x = y := by
  have h1 := x.isLt
  have h2 := y.isLt
  unfold key at h
  exact BitVec.eq_of_toNat_eq (by omega)
theorem sortS (l r : List (BitVec 16)) (h : sortO key l = some r) : Spec1 Tryz.prog 64 [] [2000] [(2000, bL 28 1 (fun x => [.b16 x]) 0#16 l)] [.own 2000, .fn (.func 65) []] (.tup []) [(2000, bL 28 1 (fun x => [.b16 x]) 0#16 r)] := by
  have hI := isortK_eq (k := key) key_inj (lt := ltOf cmpS) (fun x y => by unfold ltOf; rw [cmpS_lt, ltS_key])
  refine sort_spec (fun x : BitVec 16 => .int .u16 (x.toNat : Int)) (fun x => .b16 x) 28 0#16 key ?_ ?_ (fun _ _ x => .b16 _ x) (fun _ _ x v h => by cases h; rfl) (fun _ => rfl) l r h
  · exact fun p cap fv w => AnyF.slices_SortFunc_none (P := Tryz.prog) (ρ := Tryz.sortSet_ren) { Tryz.sortSet with } p cap fv w
  · intro blk off cap d w hH hb hd
    have eg : ∀ args w, (callFunc 65 args).run Tryz.prog w = .ok (.enter 65 args) w := enters_of Tryz.func65 (by kernel_rfl) rfl
    have := Any.slices_SortFunc_total Tryz.sortSet (fun x : BitVec 16 => .int .u16 (x.toNat : Int)) (fun _ => rfl) cmpS swoS 65 #[] blk off cap d w eg (fun m os dk _ x y => by
      exact calls_grow (f65_ok x y _ (f65_eq' x y)) _ rfl (fun i hi => match i, hi with | 0, _ => .b16 _ x | 1, _ => .b16 _ y)) hH hb hd (fun x y h1 h2 => by
      have e1 := ltS_key (a := x) (b := y)
      have e2 := ltS_key (a := y) (b := x)
      unfold ltOf at h1 h2
      rw [cmpS_lt] at h1 h2
      rw [h1] at e1; rw [h2] at e2
      simp at e1 e2
      exact key_inj x y (by omega))
    rw [hI] at this
    exact this
theorem swoF : SWO (ltOf cmpF) where
  irrefl x := by unfold ltOf; rw [cmpF_lt]; simp
  trans x y z h1 h2 := by unfold ltOf at *; rw [cmpF_lt] at *; simp at *; omega
  ntrans x y z h1 h2 := by unfold ltOf at *; rw [cmpF_lt] at *; simp at *; omega
def encFl (x : Flt) : List Value := [.int .u16 (x.1.toNat : Int), .int .u16 (x.2.toNat : Int)]
theorem aggFl {St : Nat → Prop} {w : World} {g : Gh} (x : Flt) : Rel St w g (.agg [.b16 x.1, .b16 x.2]) (.agg #[.int .u16 (x.1.toNat : Int), .int .u16 (x.2.toNat : Int)]) :=
  .agg g _ _ rfl fun i hi => match i, hi with
    | 0, _ => .b16 _ x.1
    | 1, _ => .b16 _ x.2
theorem sortFl (l r : List Flt) (h : sortO keyF l = some r) : Spec1 Tryz.prog 79 [] [2000] [(2000, bL 30 2 (fun x : Flt => [.b16 x.1, .b16 x.2]) default l)] [.own 2000, .fn (.func 43) []] (.tup []) [(2000, bL 30 2 (fun x : Flt => [.b16 x.1, .b16 x.2]) default r)] := by
  have hI := isortK_eq (k := keyF) (fun _ _ => keyF_inj) (lt := ltOf cmpF) (fun x y => by unfold ltOf; rw [cmpF_lt]; simp)
  refine sort_specK 2 (by decide) encFl (fun _ => rfl) (fun x : Flt => [.b16 x.1, .b16 x.2]) 30 default keyF ?_ ?_ (fun _ _ x j hj => ?_) (fun _ _ x j v hj h => ?_) (fun x v hv => ?_) l r h
  · exact fun p cap fv w => AnyF.slices_SortFunc_none (P := Tryz.prog) (ρ := Tryz.sortFlt_ren) Tryz.sortFlt p cap fv w
  · intro blk off cap d w hH hb hd
    have eg : ∀ args w, (callFunc 43 args).run Tryz.prog w = .ok (.enter 43 args) w := enters_of Tryz.func43 (by kernel_rfl) rfl
    have := AnyQ.slices_SortFunc_total Tryz.sortFlt 2 Tryz.isAgg30 Tryz.sizeOf30 encFl (fun _ => rfl) (fun x v hv => by simp [encFl] at hv; rcases hv with rfl | rfl <;> rfl) cmpF swoF 43 #[] blk off cap d w eg (fun m os dk _ x y => by
      exact calls_grow (f43_ok x.1 x.2 y.1 y.2 _ (f43_eq' x y)) _ rfl (fun i hi => match i, hi with | 0, _ => aggFl x | 1, _ => aggFl y)) hH hb hd (fun x y h1 h2 => by
      unfold ltOf at h1 h2
      rw [cmpF_lt] at h1 h2
      simp at h1 h2
      exact keyF_inj (by omega))
    rw [hI] at this
    exact this
  · match j, hj with
    | 0, _ => exact .b16 _ _
    | 1, _ => exact .b16 _ _
  · match j, hj with
    | 0, _ => cases h; rfl
    | 1, _ => cases h; rfl
  · simp [encFl] at hv
    rcases hv with rfl | rfl <;> rfl
end Go.Abs
