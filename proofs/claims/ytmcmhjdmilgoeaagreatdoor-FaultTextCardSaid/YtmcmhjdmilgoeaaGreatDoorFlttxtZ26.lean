/- Part 26 of the proof: Lay19, Cmp19. -/
import Derived.Test.YtmcmhjdmilgoeaaGreatDoorFlttxtZ25
import Derived.Shelf.Strings.OnBuilder
import Derived.Shelf.SlSortCmp.NoneTotal
import Derived.Test.YtmcmhjdmilgoeaaGreatDoorProg
namespace Go.Proofs
open Go.Shelf
def Tryz.lays156_ren : Go.Shelf.Ren := ⟨fun | 156 => 62 | 165 => 84 | 166 => 85 | 169 => 86 | 240 => 103 | 241 => 104 | 276 => 138 | 277 => 139 | n => n, fun | 31 => 71 | 9 => 9 | 3 => 3 | 4 => 4 | 0 => 0 | 20 => 20 | 72 => 95 | 76 => 99 | 70 => 92 | 37 => 93 | 75 => 98 | 127 => 118 | 164 => 141 | 5 => 5 | 80 => 101 | n => n, fun | n => n⟩
theorem Tryz.lays156 : Go.Proofs.Lays.n156 Tryz.prog Tryz.lays156_ren := {
  mixed := by kernel_rfl
  f156 := Tryz.func62.trans (congrArg some (by kernel_rfl))
  f165 := Tryz.func84.trans (congrArg some (by kernel_rfl))
  f166 := Tryz.func85.trans (congrArg some (by kernel_rfl))
  f169 := Tryz.func86.trans (congrArg some (by kernel_rfl))
  f240 := Tryz.func103.trans (congrArg some (by kernel_rfl))
  f241 := Tryz.func104.trans (congrArg some (by kernel_rfl))
  f276 := Tryz.func138.trans (congrArg some (by kernel_rfl))
  f277 := Tryz.func139.trans (congrArg some (by kernel_rfl))
  t0 := Tryz.underlying0
  a0 := Tryz.isAgg0
  z0 := Tryz.sizeOf0
  v0 := Tryz.zeroValue0
  t3 := Tryz.underlying3
  a3 := Tryz.isAgg3
  z3 := Tryz.sizeOf3
  v3 := Tryz.zeroValue3
  t4 := Tryz.underlying4
  a4 := Tryz.isAgg4
  z4 := Tryz.sizeOf4
  v4 := Tryz.zeroValue4
  t9 := Tryz.underlying9
  a9 := Tryz.isAgg9
  z9 := Tryz.sizeOf9
  v9 := Tryz.zeroValue9
  t20 := Tryz.underlying20
  a20 := Tryz.isAgg20
  z20 := Tryz.sizeOf20
  v20 := Tryz.zeroValue20
  t31 := Tryz.underlying71
  a31 := Tryz.isAgg71
  z31 := Tryz.sizeOf71
  v31 := Tryz.zeroValue71
  t37 := Tryz.underlying93
  a37 := Tryz.isAgg93
  z37 := Tryz.sizeOf93
  v37 := Tryz.zeroValue93
  t70 := Tryz.underlying92
  a70 := Tryz.isAgg92
  z70 := Tryz.sizeOf92
  v70 := Tryz.zeroValue92
  t72 := Tryz.underlying95
  a72 := Tryz.isAgg95
  z72 := Tryz.sizeOf95
  v72 := Tryz.zeroValue95
  t75 := Tryz.underlying98
  a75 := Tryz.isAgg98
  z75 := Tryz.sizeOf98
  v75 := Tryz.zeroValue98
  t76 := Tryz.underlying99
  a76 := Tryz.isAgg99
  z76 := Tryz.sizeOf99
  v76 := Tryz.zeroValue99
  t127 := Tryz.underlying118
  a127 := Tryz.isAgg118
  z127 := Tryz.sizeOf118
  v127 := Tryz.zeroValue118
  t164 := Tryz.underlying141
  a164 := Tryz.isAgg141
  z164 := Tryz.sizeOf141
  v164 := Tryz.zeroValue141 }
def Tryz.sortSet_ren : Go.Shelf.Ren := ⟨fun | 6 => 64 | 15 => 89 | 14 => 88 | 28 => 113 | 29 => 114 | 20 => 105 | 21 => 106 | 22 => 107 | 23 => 108 | 24 => 109 | 25 => 110 | 26 => 111 | 27 => 112 | 46 => 140 | 47 => 141 | 48 => 142 | 49 => 143 | 50 => 144 | 57 => 157 | n => n, fun | 22 => 46 | 24 => 28 | 25 => 75 | 3 => 3 | 39 => 104 | 0 => 0 | 53 => 115 | 55 => 129 | 4 => 4 | 46 => 121 | 45 => 120 | 50 => 125 | 5 => 5 | 9 => 9 | 66 => 144 | 70 => 148 | 76 => 162 | 77 => 163 | n => n, fun | n => n⟩
theorem Tryz.sortSet : Go.Proofs.SlLaysF.n6 Tryz.prog Tryz.sortSet_ren := {
  mixed := by kernel_rfl
  f6 := ⟨Tryz.f64.name, by decide, Tryz.func64.trans (congrArg some (by kernel_rfl))⟩
  f14 := ⟨Tryz.f88.name, by decide, Tryz.func88.trans (congrArg some (by kernel_rfl))⟩
  f15 := Tryz.func89.trans (congrArg some (by kernel_rfl))
  f20 := ⟨Tryz.f105.name, by decide, Tryz.func105.trans (congrArg some (by kernel_rfl))⟩
  f21 := ⟨Tryz.f106.name, by decide, Tryz.func106.trans (congrArg some (by kernel_rfl))⟩
  f22 := ⟨Tryz.f107.name, by decide, Tryz.func107.trans (congrArg some (by kernel_rfl))⟩
  f23 := ⟨Tryz.f108.name, by decide, Tryz.func108.trans (congrArg some (by kernel_rfl))⟩
  f24 := ⟨Tryz.f109.name, by decide, Tryz.func109.trans (congrArg some (by kernel_rfl))⟩
  f25 := ⟨Tryz.f110.name, by decide, Tryz.func110.trans (congrArg some (by kernel_rfl))⟩
  f26 := ⟨Tryz.f111.name, by decide, Tryz.func111.trans (congrArg some (by kernel_rfl))⟩
  f27 := ⟨Tryz.f112.name, by decide, Tryz.func112.trans (congrArg some (by kernel_rfl))⟩
  f28 := Tryz.func113.trans (congrArg some (by kernel_rfl))
  f29 := Tryz.func114.trans (congrArg some (by kernel_rfl))
  f46 := ⟨Tryz.f140.name, by decide, Tryz.func140.trans (congrArg some (by kernel_rfl))⟩
  f47 := Tryz.func141.trans (congrArg some (by kernel_rfl))
  f48 := Tryz.func142.trans (congrArg some (by kernel_rfl))
  f49 := ⟨Tryz.f143.name, by decide, Tryz.func143.trans (congrArg some (by kernel_rfl))⟩
  f50 := ⟨Tryz.f144.name, by decide, Tryz.func144.trans (congrArg some (by kernel_rfl))⟩
  f57 := ⟨Tryz.f157.name, by decide, Tryz.func157.trans (congrArg some (by kernel_rfl))⟩
  t0 := Tryz.underlying0
  a0 := Tryz.isAgg0
  z0 := Tryz.sizeOf0
  v0 := Tryz.zeroValue0
  t3 := Tryz.underlying3
  a3 := Tryz.isAgg3
  z3 := Tryz.sizeOf3
  v3 := Tryz.zeroValue3
  t4 := Tryz.underlying4
  a4 := Tryz.isAgg4
  z4 := Tryz.sizeOf4
  v4 := Tryz.zeroValue4
  t5 := Tryz.underlying5
  a5 := Tryz.isAgg5
  z5 := Tryz.sizeOf5
  v5 := Tryz.zeroValue5
  t9 := Tryz.underlying9
  a9 := Tryz.isAgg9
  z9 := Tryz.sizeOf9
  v9 := Tryz.zeroValue9
  t22 := Tryz.underlying46
  a22 := Tryz.isAgg46
  z22 := Tryz.sizeOf46
  v22 := Tryz.zeroValue46
  a24 := Tryz.isAgg28
  z24 := Tryz.sizeOf28
  t25 := Tryz.underlying75
  a25 := Tryz.isAgg75
  z25 := Tryz.sizeOf75
  v25 := Tryz.zeroValue75
  t39 := Tryz.underlying104
  a39 := Tryz.isAgg104
  z39 := Tryz.sizeOf104
  v39 := Tryz.zeroValue104
  t45 := Tryz.underlying120
  a45 := Tryz.isAgg120
  z45 := Tryz.sizeOf120
  v45 := Tryz.zeroValue120
  t46 := Tryz.underlying121
  a46 := Tryz.isAgg121
  z46 := Tryz.sizeOf121
  v46 := Tryz.zeroValue121
  t50 := Tryz.underlying125
  a50 := Tryz.isAgg125
  z50 := Tryz.sizeOf125
  v50 := Tryz.zeroValue125
  t53 := Tryz.underlying115
  a53 := Tryz.isAgg115
  z53 := Tryz.sizeOf115
  v53 := Tryz.zeroValue115
  t55 := Tryz.underlying129
  a55 := Tryz.isAgg129
  z55 := Tryz.sizeOf129
  v55 := Tryz.zeroValue129
  t66 := Tryz.underlying144
  a66 := Tryz.isAgg144
  z66 := Tryz.sizeOf144
  v66 := Tryz.zeroValue144
  t70 := Tryz.underlying148
  a70 := Tryz.isAgg148
  z70 := Tryz.sizeOf148
  v70 := Tryz.zeroValue148
  t76 := Tryz.underlying162
  a76 := Tryz.isAgg162
  z76 := Tryz.sizeOf162
  v76 := Tryz.zeroValue162
  t77 := Tryz.underlying163
  a77 := Tryz.isAgg163
  z77 := Tryz.sizeOf163
  v77 := Tryz.zeroValue163 }
def Tryz.sortFlt_ren : Go.Shelf.Ren := ⟨fun | 6 => 79 | 15 => 89 | 14 => 101 | 28 => 113 | 29 => 114 | 20 => 129 | 21 => 130 | 22 => 131 | 23 => 132 | 24 => 133 | 25 => 134 | 26 => 135 | 27 => 136 | 46 => 153 | 47 => 141 | 48 => 142 | 49 => 154 | 50 => 155 | 57 => 167 | n => n, fun | 22 => 22 | 24 => 30 | 25 => 56 | 3 => 3 | 39 => 104 | 0 => 0 | 53 => 115 | 55 => 129 | 4 => 4 | 46 => 121 | 45 => 120 | 50 => 125 | 5 => 5 | 9 => 9 | 66 => 144 | 70 => 148 | 76 => 162 | 77 => 163 | n => n, fun | n => n⟩
theorem Tryz.sortFlt : Go.Proofs.SlLaysF0.n6 Tryz.prog Tryz.sortFlt_ren := {
  mixed := by kernel_rfl
  f6 := ⟨Tryz.f79.name, by decide, Tryz.func79.trans (congrArg some (by kernel_rfl))⟩
  f14 := ⟨Tryz.f101.name, by decide, Tryz.func101.trans (congrArg some (by kernel_rfl))⟩
  f15 := Tryz.func89.trans (congrArg some (by kernel_rfl))
  f20 := ⟨Tryz.f129.name, by decide, Tryz.func129.trans (congrArg some (by kernel_rfl))⟩
  f21 := ⟨Tryz.f130.name, by decide, Tryz.func130.trans (congrArg some (by kernel_rfl))⟩
  f22 := ⟨Tryz.f131.name, by decide, Tryz.func131.trans (congrArg some (by kernel_rfl))⟩
  f23 := ⟨Tryz.f132.name, by decide, Tryz.func132.trans (congrArg some (by kernel_rfl))⟩
  f24 := ⟨Tryz.f133.name, by decide, Tryz.func133.trans (congrArg some (by kernel_rfl))⟩
  f25 := ⟨Tryz.f134.name, by decide, Tryz.func134.trans (congrArg some (by kernel_rfl))⟩
  f26 := ⟨Tryz.f135.name, by decide, Tryz.func135.trans (congrArg some (by kernel_rfl))⟩
  f27 := ⟨Tryz.f136.name, by decide, Tryz.func136.trans (congrArg some (by kernel_rfl))⟩
  f28 := Tryz.func113.trans (congrArg some (by kernel_rfl))
  f29 := Tryz.func114.trans (congrArg some (by kernel_rfl))
  f46 := ⟨Tryz.f153.name, by decide, Tryz.func153.trans (congrArg some (by kernel_rfl))⟩
  f47 := Tryz.func141.trans (congrArg some (by kernel_rfl))
  f48 := Tryz.func142.trans (congrArg some (by kernel_rfl))
  f49 := ⟨Tryz.f154.name, by decide, Tryz.func154.trans (congrArg some (by kernel_rfl))⟩
  f50 := ⟨Tryz.f155.name, by decide, Tryz.func155.trans (congrArg some (by kernel_rfl))⟩
  f57 := ⟨Tryz.f167.name, by decide, Tryz.func167.trans (congrArg some (by kernel_rfl))⟩
  t0 := Tryz.underlying0
  a0 := Tryz.isAgg0
  z0 := Tryz.sizeOf0
  v0 := Tryz.zeroValue0
  t3 := Tryz.underlying3
  a3 := Tryz.isAgg3
  z3 := Tryz.sizeOf3
  v3 := Tryz.zeroValue3
  t4 := Tryz.underlying4
  a4 := Tryz.isAgg4
  z4 := Tryz.sizeOf4
  v4 := Tryz.zeroValue4
  t5 := Tryz.underlying5
  a5 := Tryz.isAgg5
  z5 := Tryz.sizeOf5
  v5 := Tryz.zeroValue5
  t9 := Tryz.underlying9
  a9 := Tryz.isAgg9
  z9 := Tryz.sizeOf9
  v9 := Tryz.zeroValue9
  t22 := Tryz.underlying22
  a22 := Tryz.isAgg22
  z22 := Tryz.sizeOf22
  v22 := Tryz.zeroValue22
  t25 := Tryz.underlying56
  a25 := Tryz.isAgg56
  z25 := Tryz.sizeOf56
  v25 := Tryz.zeroValue56
  t39 := Tryz.underlying104
  a39 := Tryz.isAgg104
  z39 := Tryz.sizeOf104
  v39 := Tryz.zeroValue104
  t45 := Tryz.underlying120
  a45 := Tryz.isAgg120
  z45 := Tryz.sizeOf120
  v45 := Tryz.zeroValue120
  t46 := Tryz.underlying121
  a46 := Tryz.isAgg121
  z46 := Tryz.sizeOf121
  v46 := Tryz.zeroValue121
  t50 := Tryz.underlying125
  a50 := Tryz.isAgg125
  z50 := Tryz.sizeOf125
  v50 := Tryz.zeroValue125
  t53 := Tryz.underlying115
  a53 := Tryz.isAgg115
  z53 := Tryz.sizeOf115
  v53 := Tryz.zeroValue115
  t55 := Tryz.underlying129
  a55 := Tryz.isAgg129
  z55 := Tryz.sizeOf129
  v55 := Tryz.zeroValue129
  t66 := Tryz.underlying144
  a66 := Tryz.isAgg144
  z66 := Tryz.sizeOf144
  v66 := Tryz.zeroValue144
  t70 := Tryz.underlying148
  a70 := Tryz.isAgg148
  z70 := Tryz.sizeOf148
  v70 := Tryz.zeroValue148
  t76 := Tryz.underlying162
  a76 := Tryz.isAgg162
  z76 := Tryz.sizeOf162
  v76 := Tryz.zeroValue162
  t77 := Tryz.underlying163
  a77 := Tryz.isAgg163
  z77 := Tryz.sizeOf163
  v77 := Tryz.zeroValue163 }
theorem Tryz.Builder_Extra_156 : Builder.Extra Tryz.prog Tryz.lays156_ren := {
  sizeBuilder := by kernel_rfl
  liesBuilder := by kernel_rfl
  t5 := Tryz.underlying5
  a5 := Tryz.isAgg5
  z5 := Tryz.sizeOf5
  v5 := Tryz.zeroValue5
  infoByte := by kernel_rfl
  cellsByte := by kernel_rfl
  sizeByte := by kernel_rfl
  neB5 := by decide }
end Go.Proofs
namespace Go.Abs
open Go Go.Proofs Go.RowKit Go.Sort
set_option maxHeartbeats 4000000
theorem swoS : SWO (ltOf cmpS) where
  irrefl x := by
    have h := ltS_key (a := x) (b := x)
    unfold ltOf; rw [cmpS_lt]; simpa using h
  trans x y z h1 h2 := by
    unfold ltOf at *; rw [cmpS_lt, ltS_key] at *; omega
  ntrans x y z h1 h2 := by
    unfold ltOf at *; rw [cmpS_lt] at *
    rw [Bool.eq_false_iff, Ne, ltS_key] at *; omega
theorem key_inj (x y : BitVec 16) (h : key x = key y) : x = y := by
  have h1 := x.isLt
  have h2 := y.isLt
  unfold key at h
  exact BitVec.eq_of_toNat_eq (by omega)
theorem sortS (l r : List (BitVec 16)) (h : sortO key l = some r) : Spec1 Tryz.prog 64 [] [2000] [(2000, bL 28 1 (fun x => [.b16 x]) 0#16 l)] [.own 2000, .fn (.func 65) []] (.tup []) [(2000, bL 28 1 (fun x => [.b16 x]) 0#16 r)] := by
  have hI := isortK_eq (k := key) key_inj (lt := ltOf cmpS) (fun x y => by unfold ltOf; rw [cmpS_lt, ltS_key])
  refine sort_spec (fun x : BitVec 16 => .int .u16 (x.toNat : Int)) (fun x => .b16 x) 28 0#16 key ?_ ?_ (fun _ _ x => .b16 _ x) (fun _ _ x v h => by cases h; rfl) (fun _ => rfl) l r h
  · exact fun p cap fv w => AnyF.slices_SortFunc_none (P := Tryz.prog) (ρ := Tryz.sortSet_ren) { Tryz.sortSet with } p cap fv w
  · intro blk off cap d w hH hb hd
    have eg : ∀ args w, (callFunc 65 args).run Tryz.prog w = .ok (.enter 65 args) w := enters_of Tryz.func65 (by kernel_rfl) rfl
    have := Any.slices_SortFunc_total Tryz.sortSet (fun x : BitVec 16 => .int .u16 (x.toNat : Int)) (fun _ => rfl) cmpS swoS 65 #[] blk off cap d w eg (fun m os dk _ x y => by
      exact calls_grow (f65_ok x y _ (f65_eq' x y)) _ rfl (fun i hi => match i, hi with | 0, _ => .b16 _ x | 1, _ => .b16 _ y)) hH hb hd (fun x y h1 h2 => by
      have e1 := ltS_key (a := x) (b := y)
      have e2 := ltS_key (a := y) (b := x)
      unfold ltOf at h1 h2
      rw [cmpS_lt] at h1 h2
      rw [h1] at e1; rw [h2] at e2
      simp at e1 e2
      exact key_inj x y (by omega))
    rw [hI] at this
    exact this
theorem swoF : SWO (ltOf cmpF) where
  irrefl x := by unfold ltOf; rw [cmpF_lt]; simp
  trans x y z h1 h2 := by unfold ltOf at *; rw [cmpF_lt] at *; simp at *; omega
  ntrans x y z h1 h2 := by unfold ltOf at *; rw [cmpF_lt] at *; simp at *; omega
def encFl (x : Flt) : List Value := [.int .u16 (x.1.toNat : Int), .int .u16 (x.2.toNat : Int)]
theorem aggFl {St : Nat → Prop} {w : World} {g : Gh} (x : Flt) : Rel St w g (.agg [.b16 x.1, .b16 x.2]) (.agg #[.int .u16 (x.1.toNat : Int), .int .u16 (x.2.toNat : Int)]) :=
  .agg g _ _ rfl fun i hi => match i, hi with
    | 0, _ => .b16 _ x.1
    | 1, _ => .b16 _ x.2
theorem sortFl (l r : List Flt) (h : sortO keyF l = some r) : Spec1 Tryz.prog 79 [] [2000] [(2000, bL 30 2 (fun x : Flt => [.b16 x.1, .b16 x.2]) default l)] [.own 2000, .fn (.func 43) []] (.tup []) [(2000, bL 30 2 (fun x : Flt => [.b16 x.1, .b16 x.2]) default r)] := by
  have hI := isortK_eq (k := keyF) (fun _ _ => keyF_inj) (lt := ltOf cmpF) (fun x y => by unfold ltOf; rw [cmpF_lt]; simp)
  refine sort_specK 2 (by decide) encFl (fun _ => rfl) (fun x : Flt => [.b16 x.1, .b16 x.2]) 30 default keyF ?_ ?_ (fun _ _ x j hj => ?_) (fun _ _ x j v hj h => ?_) (fun x v hv => ?_) l r h
  · exact fun p cap fv w => AnyF.slices_SortFunc_none (P := Tryz.prog) (ρ := Tryz.sortFlt_ren) Tryz.sortFlt p cap fv w
  · intro blk off cap d w hH hb hd
    have eg : ∀ args w, (callFunc 43 args).run Tryz.prog w = .ok (.enter 43 args) w := enters_of Tryz.func43 (by kernel_rfl) rfl
    have := AnyQ.slices_SortFunc_total Tryz.sortFlt 2 Tryz.isAgg30 Tryz.sizeOf30 encFl (fun _ => rfl) (fun x v hv => by simp [encFl] at hv; rcases hv with rfl | rfl <;> rfl) cmpF swoF 43 #[] blk off cap d w eg (fun m os dk _ x y => by
      exact calls_grow (f43_ok x.1 x.2 y.1 y.2 _ (f43_eq' x y)) _ rfl (fun i hi => match i, hi with | 0, _ => aggFl x | 1, _ => aggFl y)) hH hb hd (fun x y h1 h2 => by
      unfold ltOf at h1 h2
      rw [cmpF_lt] at h1 h2
      simp at h1 h2
      exact keyF_inj (by omega))
    rw [hI] at this
    exact this
  · match j, hj with
    | 0, _ => exact .b16 _ _
    | 1, _ => exact .b16 _ _
  · match j, hj with
    | 0, _ => cases h; rfl
    | 1, _ => cases h; rfl
  · simp [encFl] at hv
    rcases hv with rfl | rfl <;> rfl
end Go.Abs
