/- Part 20 of the proof: Laytz, Cmptz. -/
import Derived.Test.YtjgboohpholnbaaGreatDoorTpcomZ19
import Derived.Shelf.SlSortCmp.NoneTotal
import Derived.Test.YtjgboohpholnbaaGreatDoorProg
namespace Go.Proofs
open Go.Shelf
def Tryz.sortSet_ren : Go.Shelf.Ren := ⟨fun | 6 => 64 | 15 => 83 | 14 => 82 | 28 => 103 | 29 => 104 | 20 => 95 | 21 => 96 | 22 => 97 | 23 => 98 | 24 => 99 | 25 => 100 | 26 => 101 | 27 => 102 | 46 => 108 | 47 => 109 | 48 => 110 | 49 => 111 | 50 => 112 | 57 => 113 | n => n, fun | 22 => 31 | 24 => 27 | 25 => 73 | 3 => 3 | 39 => 91 | 0 => 0 | 53 => 90 | 55 => 118 | 4 => 4 | 46 => 110 | 45 => 109 | 50 => 114 | 5 => 5 | 9 => 9 | 66 => 120 | 70 => 124 | 76 => 126 | 77 => 127 | n => n, fun | n => n⟩
theorem Tryz.sortSet : Go.Proofs.SlLaysF.n6 Tryz.prog Tryz.sortSet_ren := {
 mixed := by kernel_rfl
 f6 := ⟨Tryz.f64.name, by decide, Tryz.func64.trans (congrArg some (by kernel_rfl))⟩
 f14 := ⟨Tryz.f82.name, by decide, Tryz.func82.trans (congrArg some (by kernel_rfl))⟩
 f15 := Tryz.func83.trans (congrArg some (by kernel_rfl))
 f20 := ⟨Tryz.f95.name, by decide, Tryz.func95.trans (congrArg some (by kernel_rfl))⟩
 f21 := ⟨Tryz.f96.name, by decide, Tryz.func96.trans (congrArg some (by kernel_rfl))⟩
 f22 := ⟨Tryz.f97.name, by decide, Tryz.func97.trans (congrArg some (by kernel_rfl))⟩
 f23 := ⟨Tryz.f98.name, by decide, Tryz.func98.trans (congrArg some (by kernel_rfl))⟩
 f24 := ⟨Tryz.f99.name, by decide, Tryz.func99.trans (congrArg some (by kernel_rfl))⟩
 f25 := ⟨Tryz.f100.name, by decide, Tryz.func100.trans (congrArg some (by kernel_rfl))⟩
 f26 := ⟨Tryz.f101.name, by decide, Tryz.func101.trans (congrArg some (by kernel_rfl))⟩
 f27 := ⟨Tryz.f102.name, by decide, Tryz.func102.trans (congrArg some (by kernel_rfl))⟩
 f28 := Tryz.func103.trans (congrArg some (by kernel_rfl))
 f29 := Tryz.func104.trans (congrArg some (by kernel_rfl))
 f46 := ⟨Tryz.f108.name, by decide, Tryz.func108.trans (congrArg some (by kernel_rfl))⟩
 f47 := Tryz.func109.trans (congrArg some (by kernel_rfl))
 f48 := Tryz.func110.trans (congrArg some (by kernel_rfl))
 f49 := ⟨Tryz.f111.name, by decide, Tryz.func111.trans (congrArg some (by kernel_rfl))⟩
 f50 := ⟨Tryz.f112.name, by decide, Tryz.func112.trans (congrArg some (by kernel_rfl))⟩
 f57 := ⟨Tryz.f113.name, by decide, Tryz.func113.trans (congrArg some (by kernel_rfl))⟩
 t0 := Tryz.underlying0
 a0 := Tryz.isAgg0
 z0 := Tryz.sizeOf0
 v0 := Tryz.zeroValue0
 t3 := Tryz.underlying3
 a3 := Tryz.isAgg3
 z3 := Tryz.sizeOf3
 v3 := Tryz.zeroValue3
 t4 := Tryz.underlying4
 a4 := Tryz.isAgg4
 z4 := Tryz.sizeOf4
 v4 := Tryz.zeroValue4
 t5 := Tryz.underlying5
 a5 := Tryz.isAgg5
 z5 := Tryz.sizeOf5
 v5 := Tryz.zeroValue5
 t9 := Tryz.underlying9
 a9 := Tryz.isAgg9
 z9 := Tryz.sizeOf9
 v9 := Tryz.zeroValue9
 t22 := Tryz.underlying31
 a22 := Tryz.isAgg31
 z22 := Tryz.sizeOf31
 v22 := Tryz.zeroValue31
 a24 := Tryz.isAgg27
 z24 := Tryz.sizeOf27
 t25 := Tryz.underlying73
 a25 := Tryz.isAgg73
 z25 := Tryz.sizeOf73
 v25 := Tryz.zeroValue73
 t39 := Tryz.underlying91
 a39 := Tryz.isAgg91
 z39 := Tryz.sizeOf91
 v39 := Tryz.zeroValue91
 t45 := Tryz.underlying109
 a45 := Tryz.isAgg109
 z45 := Tryz.sizeOf109
 v45 := Tryz.zeroValue109
 t46 := Tryz.underlying110
 a46 := Tryz.isAgg110
 z46 := Tryz.sizeOf110
 v46 := Tryz.zeroValue110
 t50 := Tryz.underlying114
 a50 := Tryz.isAgg114
 z50 := Tryz.sizeOf114
 v50 := Tryz.zeroValue114
 t53 := Tryz.underlying90
 a53 := Tryz.isAgg90
 z53 := Tryz.sizeOf90
 v53 := Tryz.zeroValue90
 t55 := Tryz.underlying118
 a55 := Tryz.isAgg118
 z55 := Tryz.sizeOf118
 v55 := Tryz.zeroValue118
 t66 := Tryz.underlying120
 a66 := Tryz.isAgg120
 z66 := Tryz.sizeOf120
 v66 := Tryz.zeroValue120
 t70 := Tryz.underlying124
 a70 := Tryz.isAgg124
 z70 := Tryz.sizeOf124
 v70 := Tryz.zeroValue124
 t76 := Tryz.underlying126
 a76 := Tryz.isAgg126
 z76 := Tryz.sizeOf126
 v76 := Tryz.zeroValue126
 t77 := Tryz.underlying127
 a77 := Tryz.isAgg127
 z77 := Tryz.sizeOf127
 v77 := Tryz.zeroValue127 }
end Go.Proofs
namespace Go.Abs
open Go Go.Proofs Go.RowKit Go.Sort
set_option maxHeartbeats 4000000
theorem swoS : SWO (ltOf cmpS) where
 irrefl x := by
  have h := ltS_key (a := x) (b := x)
  unfold ltOf; rw [cmpS_lt]; simpa using h
 trans x y z h1 h2 := by
  unfold ltOf at *; rw [cmpS_lt, ltS_key] at *; omega
 ntrans x y z h1 h2 := by
  unfold ltOf at *; rw [cmpS_lt] at *
  rw [Bool.eq_false_iff, Ne, ltS_key] at *; omega
theorem key_inj (x y : BitVec 16) (h : key x = key y) : x = y := by
 have h1 := x.isLt
 have h2 := y.isLt
 unfold key at h
 exact BitVec.eq_of_toNat_eq (by omega)
theorem sortS (l r : List (BitVec 16)) (h : sortO key l = some r) : Spec1 Tryz.prog 64 [] [2000] [(2000, bL 27 1 (fun x => [.b16 x]) 0#16 l)] [.own 2000, .fn (.func 43) []] (.tup []) [(2000, bL 27 1 (fun x => [.b16 x]) 0#16 r)] := by
 have hI := isortK_eq (k := key) key_inj (lt := ltOf cmpS) (fun x y => by unfold ltOf; rw [cmpS_lt, ltS_key])
 refine sort_spec (fun x : BitVec 16 => .int .u16 (x.toNat : Int)) (fun x => .b16 x) 27 0#16 key ?_ ?_ (fun _ _ x => .b16 _ x) (fun _ _ x v h => by cases h; rfl) (fun _ => rfl) l r h
 ·exact fun p cap fv w => AnyF.slices_SortFunc_none (P := Tryz.prog) (ρ := Tryz.sortSet_ren) { Tryz.sortSet with } p cap fv w
 ·intro blk off cap d w hH hb hd
  have eg : ∀ args w, (callFunc 43 args).run Tryz.prog w = .ok (.enter 43 args) w := enters_of Tryz.func43 (by kernel_rfl) rfl
  have := Any.slices_SortFunc_total Tryz.sortSet (fun x : BitVec 16 => .int .u16 (x.toNat : Int)) (fun _ => rfl) cmpS swoS 43 #[] blk off cap d w eg (fun m os dk _ x y => by
   exact calls_grow (f43_ok x y _ (f43_eq' x y)) _ rfl (fun i hi => match i, hi with | 0, _ => .b16 _ x | 1, _ => .b16 _ y)) hH hb hd (fun x y h1 h2 => by
   have e1 := ltS_key (a := x) (b := y)
   have e2 := ltS_key (a := y) (b := x)
   unfold ltOf at h1 h2
   rw [cmpS_lt] at h1 h2
   rw [h1] at e1; rw [h2] at e2
   simp at e1 e2
   exact key_inj x y (by omega))
  rw [hI] at this
  exact this
end Go.Abs
