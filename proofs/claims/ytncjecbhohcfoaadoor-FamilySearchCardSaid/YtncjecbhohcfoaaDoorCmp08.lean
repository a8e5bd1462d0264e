/- slices.SortFunc at sets by set.Compare. -/
import Derived.Test.YtncjecbhohcfoaaDoorCmp08a
import Derived.Test.YtncjecbhohcfoaaDoorSrt1
import Derived.Test.YtncjecbhohcfoaaDoorLay08
namespace Go.Abs
open Go Go.Proofs Go.RowKit Go.Sort
set_option maxHeartbeats 4000000
theorem swoS : SWO (ltOf cmpS) where
  irrefl x := by
    have h := ltS_key (a := x) (b := x)
    unfold ltOf; rw [cmpS_lt]; simpa using h
  trans x y z h1 h2 := by
    unfold ltOf at *; rw [cmpS_lt, ltS_key] at *; omega
  ntrans x y z h1 h2 := by
    unfold ltOf at *; rw [cmpS_lt] at *
    rw [Bool.eq_false_iff, Ne, ltS_key] at *; omega
theorem key_inj (x y : BitVec 16) (h : key x = key y) : x = y := by
  have h1 := x.isLt
  have h2 := y.isLt
  unfold key at h
  exact BitVec.eq_of_toNat_eq (by omega)
theorem sortS (l r : List (BitVec 16)) (h : sortO key l = some r) : Spec1 Tryd.prog 84 [] [2000] [(2000, bL 28 1 (fun x => [.b16 x]) 0#16 l)] [.own 2000, .fn (.func 38) []] (.tup []) [(2000, bL 28 1 (fun x => [.b16 x]) 0#16 r)] := by
  have hI := isortK_eq (k := key) key_inj (lt := ltOf cmpS) (fun x y => by unfold ltOf; rw [cmpS_lt, ltS_key])
  refine sort_spec (fun x : BitVec 16 => .int .u16 (x.toNat : Int)) (fun x => .b16 x) 28 0#16 key ?_ ?_ (fun _ _ x => .b16 _ x) (fun _ _ x v h => by cases h; rfl) (fun _ => rfl) l r h
  · exact fun p cap fv w => AnyF.slices_SortFunc_none (P := Tryd.prog) (ρ := Tryd.sortSet_ren) { Tryd.sortSet with } p cap fv w
  · intro blk off cap d w hH hb hd
    have eg : ∀ args w, (callFunc 38 args).run Tryd.prog w = .ok (.enter 38 args) w := enters_of Tryd.func38 (by kernel_rfl) rfl
    have := Any.slices_SortFunc_total Tryd.sortSet (fun x : BitVec 16 => .int .u16 (x.toNat : Int)) (fun _ => rfl) cmpS swoS 38 #[] blk off cap d w eg (fun m os dk _ x y => by
      have hx := x.isLt
      have hy := y.isLt
      exact w38 x.toNat y.toNat (by omega) (by omega) _) hH hb hd (fun x y h1 h2 => by
      have e1 := ltS_key (a := x) (b := y)
      have e2 := ltS_key (a := y) (b := x)
      unfold ltOf at h1 h2
      rw [cmpS_lt] at h1 h2
      rw [h1] at e1; rw [h2] at e2
      simp at e1 e2
      exact key_inj x y (by omega))
    rw [hI] at this
    exact this
end Go.Abs
