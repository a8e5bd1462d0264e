/- Part 20 of the proof: Laytp, Cmptp. -/
import Derived.Test.YtjgboohpholnbaaDoorTpcotZ19
import Derived.Shelf.SlSortCmp.NoneTotal
import Derived.Test.YtjgboohpholnbaaDoorProg
namespace Go.Proofs
open Go.Shelf
def Tryd.sortSet_ren : Go.Shelf.Ren := ⟨fun | 6 => 104 | 15 => 107 | 14 => 106 | 28 => 116 | 29 => 117 | 20 => 108 | 21 => 109 | 22 => 110 | 23 => 111 | 24 => 112 | 25 => 113 | 26 => 114 | 27 => 115 | 46 => 118 | 47 => 119 | 48 => 120 | 49 => 121 | 50 => 122 | 57 => 123 | n => n, fun | 22 => 30 | 24 => 49 | 25 => 120 | 3 => 3 | 39 => 128 | 0 => 0 | 53 => 127 | 55 => 146 | 4 => 4 | 46 => 139 | 45 => 138 | 50 => 86 | 5 => 5 | 9 => 9 | 66 => 147 | 70 => 151 | 76 => 153 | 77 => 154 | n => n, fun | n => n⟩
theorem Tryd.sortSet : Go.Proofs.SlLaysF.n6 Tryd.prog Tryd.sortSet_ren := {
  mixed := by kernel_rfl
  f6 := ⟨Tryd.f104.name, by decide, Tryd.func104.trans (congrArg some (by kernel_rfl))⟩
  f14 := ⟨Tryd.f106.name, by decide, Tryd.func106.trans (congrArg some (by kernel_rfl))⟩
  f15 := Tryd.func107.trans (congrArg some (by kernel_rfl))
  f20 := ⟨Tryd.f108.name, by decide, Tryd.func108.trans (congrArg some (by kernel_rfl))⟩
  f21 := ⟨Tryd.f109.name, by decide, Tryd.func109.trans (congrArg some (by kernel_rfl))⟩
  f22 := ⟨Tryd.f110.name, by decide, Tryd.func110.trans (congrArg some (by kernel_rfl))⟩
  f23 := ⟨Tryd.f111.name, by decide, Tryd.func111.trans (congrArg some (by kernel_rfl))⟩
  f24 := ⟨Tryd.f112.name, by decide, Tryd.func112.trans (congrArg some (by kernel_rfl))⟩
  f25 := ⟨Tryd.f113.name, by decide, Tryd.func113.trans (congrArg some (by kernel_rfl))⟩
  f26 := ⟨Tryd.f114.name, by decide, Tryd.func114.trans (congrArg some (by kernel_rfl))⟩
  f27 := ⟨Tryd.f115.name, by decide, Tryd.func115.trans (congrArg some (by kernel_rfl))⟩
  f28 := Tryd.func116.trans (congrArg some (by kernel_rfl))
  f29 := Tryd.func117.trans (congrArg some (by kernel_rfl))
  f46 := ⟨Tryd.f118.name, by decide, Tryd.func118.trans (congrArg some (by kernel_rfl))⟩
  f47 := Tryd.func119.trans (congrArg some (by kernel_rfl))
  f48 := Tryd.func120.trans (congrArg some (by kernel_rfl))
  f49 := ⟨Tryd.f121.name, by decide, Tryd.func121.trans (congrArg some (by kernel_rfl))⟩
  f50 := ⟨Tryd.f122.name, by decide, Tryd.func122.trans (congrArg some (by kernel_rfl))⟩
  f57 := ⟨Tryd.f123.name, by decide, Tryd.func123.trans (congrArg some (by kernel_rfl))⟩
  t0 := Tryd.underlying0
  a0 := Tryd.isAgg0
  z0 := Tryd.sizeOf0
  v0 := Tryd.zeroValue0
  t3 := Tryd.underlying3
  a3 := Tryd.isAgg3
  z3 := Tryd.sizeOf3
  v3 := Tryd.zeroValue3
  t4 := Tryd.underlying4
  a4 := Tryd.isAgg4
  z4 := Tryd.sizeOf4
  v4 := Tryd.zeroValue4
  t5 := Tryd.underlying5
  a5 := Tryd.isAgg5
  z5 := Tryd.sizeOf5
  v5 := Tryd.zeroValue5
  t9 := Tryd.underlying9
  a9 := Tryd.isAgg9
  z9 := Tryd.sizeOf9
  v9 := Tryd.zeroValue9
  t22 := Tryd.underlying30
  a22 := Tryd.isAgg30
  z22 := Tryd.sizeOf30
  v22 := Tryd.zeroValue30
  a24 := Tryd.isAgg49
  z24 := Tryd.sizeOf49
  t25 := Tryd.underlying120
  a25 := Tryd.isAgg120
  z25 := Tryd.sizeOf120
  v25 := Tryd.zeroValue120
  t39 := Tryd.underlying128
  a39 := Tryd.isAgg128
  z39 := Tryd.sizeOf128
  v39 := Tryd.zeroValue128
  t45 := Tryd.underlying138
  a45 := Tryd.isAgg138
  z45 := Tryd.sizeOf138
  v45 := Tryd.zeroValue138
  t46 := Tryd.underlying139
  a46 := Tryd.isAgg139
  z46 := Tryd.sizeOf139
  v46 := Tryd.zeroValue139
  t50 := Tryd.underlying86
  a50 := Tryd.isAgg86
  z50 := Tryd.sizeOf86
  v50 := Tryd.zeroValue86
  t53 := Tryd.underlying127
  a53 := Tryd.isAgg127
  z53 := Tryd.sizeOf127
  v53 := Tryd.zeroValue127
  t55 := Tryd.underlying146
  a55 := Tryd.isAgg146
  z55 := Tryd.sizeOf146
  v55 := Tryd.zeroValue146
  t66 := Tryd.underlying147
  a66 := Tryd.isAgg147
  z66 := Tryd.sizeOf147
  v66 := Tryd.zeroValue147
  t70 := Tryd.underlying151
  a70 := Tryd.isAgg151
  z70 := Tryd.sizeOf151
  v70 := Tryd.zeroValue151
  t76 := Tryd.underlying153
  a76 := Tryd.isAgg153
  z76 := Tryd.sizeOf153
  v76 := Tryd.zeroValue153
  t77 := Tryd.underlying154
  a77 := Tryd.isAgg154
  z77 := Tryd.sizeOf154
  v77 := Tryd.zeroValue154 }
end Go.Proofs
namespace Go.Abs
open Go Go.Proofs Go.RowKit Go.Sort
set_option maxHeartbeats 4000000
theorem swoS : SWO (ltOf cmpS) where
  irrefl x := by
    have h := ltS_key (a := x) (b := x)
    unfold ltOf; rw [cmpS_lt]; simpa using h
  trans x y z h1 h2 := by
    unfold ltOf at *; rw [cmpS_lt, ltS_key] at *; omega
  ntrans x y z h1 h2 := by
    unfold ltOf at *; rw [cmpS_lt] at *
    rw [Bool.eq_false_iff, Ne, ltS_key] at *; omega
theorem key_inj (x y : BitVec 16) (h : key x = key y) : x = y := by
  have h1 := x.isLt
  have h2 := y.isLt
  unfold key at h
  exact BitVec.eq_of_toNat_eq (by omega)
theorem sortS (l r : List (BitVec 16)) (h : sortO key l = some r) : Spec1 Tryd.prog 104 [] [2000] [(2000, bL 49 1 (fun x => [.b16 x]) 0#16 l)] [.own 2000, .fn (.func 80) []] (.tup []) [(2000, bL 49 1 (fun x => [.b16 x]) 0#16 r)] := by
  have hI := isortK_eq (k := key) key_inj (lt := ltOf cmpS) (fun x y => by unfold ltOf; rw [cmpS_lt, ltS_key])
  refine sort_spec (fun x : BitVec 16 => .int .u16 (x.toNat : Int)) (fun x => .b16 x) 49 0#16 key ?_ ?_ (fun _ _ x => .b16 _ x) (fun _ _ x v h => by cases h; rfl) (fun _ => rfl) l r h
  · exact fun p cap fv w => AnyF.slices_SortFunc_none (P := Tryd.prog) (ρ := Tryd.sortSet_ren) { Tryd.sortSet with } p cap fv w
  · intro blk off cap d w hH hb hd
    have eg : ∀ args w, (callFunc 80 args).run Tryd.prog w = .ok (.enter 80 args) w := enters_of Tryd.func80 (by kernel_rfl) rfl
    have := Any.slices_SortFunc_total Tryd.sortSet (fun x : BitVec 16 => .int .u16 (x.toNat : Int)) (fun _ => rfl) cmpS swoS 80 #[] blk off cap d w eg (fun m os dk _ x y => by
      exact calls_grow (f80_ok x y _ (f80_eq' x y)) _ rfl (fun i hi => match i, hi with | 0, _ => .b16 _ x | 1, _ => .b16 _ y)) hH hb hd (fun x y h1 h2 => by
      have e1 := ltS_key (a := x) (b := y)
      have e2 := ltS_key (a := y) (b := x)
      unfold ltOf at h1 h2
      rw [cmpS_lt] at h1 h2
      rw [h1] at e1; rw [h2] at e2
      simp at e1 e2
      exact key_inj x y (by omega))
    rw [hI] at this
    exact this
end Go.Abs
