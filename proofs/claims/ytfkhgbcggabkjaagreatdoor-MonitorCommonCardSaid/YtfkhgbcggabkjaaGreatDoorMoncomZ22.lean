/- Part 22 of the proof: X54k. -/
import Derived.Test.YtfkhgbcggabkjaaGreatDoorMoncomZ21
namespace Go.Abs
open Go Go.Proofs
set_option maxRecDepth 100000
set_option maxHeartbeats 4000000
abbrev kS := @blockQ_same
abbrev kR := @blockQ_ret
abbrev tR := @thenQ_ret
abbrev tE := @thenQ_exit
abbrev kN := @blockQ_normal
abbrev bR := @bodyQ_ret
abbrev lN := @loopQ_normal
abbrev jN := @joinQ_normal
abbrev tN := @thenQ_normal
theorem Tryz_mixed : Tryz.prog.follows .mixedOrders = true := by kernel_rfl
def T4 : List Nat := [0, 1, 28, 2, 29, 14, 24, 3, 30, 22, 20, 15, 25, 17, 4, 8, 31, 27, 13, 23, 21, 19, 16, 7, 26, 12, 18, 6, 11, 5, 10, 9]
def T5 : List Nat := [0, 1, 56, 2, 57, 49, 28, 3, 61, 58, 42, 50, 38, 29, 17, 4, 62, 47, 59, 36, 45, 43, 51, 22, 53, 39, 33, 30, 24, 18, 12, 5, 63, 55, 48, 27, 60, 41, 37, 16, 46, 35, 44, 21, 52, 32, 23, 11, 54, 26, 40, 15, 34, 20, 31, 10, 25, 14, 19, 9, 13, 8, 7, 6]
def T1 : List Nat := [1, 10, 100, 1000, 10000, 100000, 1000000, 10000000, 100000000, 1000000000, 10000000000, 100000000000, 1000000000000, 10000000000000, 100000000000000, 1000000000000000, 10000000000000000, 100000000000000000, 1000000000000000000, 10000000000000000000]
def T8 : List Nat := [128, 191, 160, 191, 128, 159, 144, 191, 128, 143, 0, 0, 0, 0, 0, 0, 0, 0, 0, 0, 0, 0, 0, 0, 0, 0, 0, 0, 0, 0, 0, 0]
abbrev Y51 : Type := Int × Int × Int × Int × Int × List UInt8 × List UInt8
instance : DecidableEq Y51 := @instDecidableEqProd Int _ inferInstance (@instDecidableEqProd Int _ inferInstance (@instDecidableEqProd Int _ inferInstance (@instDecidableEqProd Int _ inferInstance (@instDecidableEqProd Int _ inferInstance (@instDecidableEqProd (List UInt8) _ inferInstance (inferInstance))))))
def eT51 (x : Y51) : List V := [.int .i64 x.1, .int .i64 x.2.1, .int .i64 x.2.2.1, .int .i64 x.2.2.2.1, .int .i64 x.2.2.2.2.1, .str x.2.2.2.2.2.1, .str x.2.2.2.2.2.2, .opq, .opq, .opq, .opq, .opq, .opq, .opq, .opq, .opq, .opq, .opq, .opq, .opq, .opq, .opq, .opq, .opq, .opq, .opq, .opq, .opq]
def eI (x : Int) : List V := [.int .i64 x]
def eS (x : List UInt8) : List V := [.str x]
theorem eS_flat (x : List UInt8) (j : Nat) : ((eS x).getD j .any).flat = true := by
 match j with
 | 0 => rfl
 | _ + 1 => rfl
def eSW (x : Tq5) : List V := [.str x.1, .b16 x.2]
def eW (x : BitVec 16) : List V := [.b16 x]
theorem eW_flat (x : BitVec 16) (j : Nat) : ((eW x).getD j .any).flat = true := by
 match j with
 | 0 => rfl
 | _ + 1 => rfl
def eWW (x : Tq1) : List V := [.b16 x.1, .b16 x.2]
theorem eWW_flat (x : Tq1) (j : Nat) : ((eWW x).getD j .any).flat = true := by
 match j with
 | 0 => rfl
 | 1 => rfl
 | _ + 2 => rfl
instance : DecidableEq (List UInt8 × Int × BitVec 16 × List (BitVec 16) × List (BitVec 16) × (List Tq1)) := @instDecidableEqProd (List UInt8) _ inferInstance (@instDecidableEqProd Int _ inferInstance (@instDecidableEqProd (BitVec 16) _ inferInstance (@instDecidableEqProd (List (BitVec 16)) _ inferInstance (@instDecidableEqProd (List (BitVec 16)) _ inferInstance (inferInstance)))))
def eT73 (x : List UInt8 × Int × BitVec 16 × List (BitVec 16) × List (BitVec 16) × (List Tq1)) : List V := [.str x.1, .int .i64 x.2.1, .b16 x.2.2.1, vL 1 eW 0#16 x.2.2.2.1, vL 1 eW 0#16 x.2.2.2.2.1, vL 2 eWW (default : Tq1) x.2.2.2.2.2]
instance : DecidableEq (List UInt8 × Bool × (List Tq1)) := @instDecidableEqProd (List UInt8) _ inferInstance (@instDecidableEqProd Bool _ inferInstance (inferInstance))
def eSBLWWJ (x : List UInt8 × Bool × (List Tq1)) : List V := [.str x.1, .bool x.2.1, vL 2 eWW (default : Tq1) x.2.2]
def m108 (x : List UInt8) : V := .str x
theorem kE108 : KeyE Tryz.prog 3 (V.int .i64) := keyE_plain Tryz.underlying3 (keyEq_int .i64) (fun _ => rfl) (fun _ => rfl)
def m109 (x : Bool) : V := .bool x
theorem kE109 : KeyE Tryz.prog 3 (V.int .i64) := keyE_plain Tryz.underlying3 (keyEq_int .i64) (fun _ => rfl) (fun _ => rfl)
def mk110E (x : Tq0) : V := .agg [.int .i64 x.1, .int .i64 x.2]
def m110 (x : List UInt8) : V := .str x
theorem kE110 : KeyE Tryz.prog 145 mk110E := keyE_struct (default : Tq0) (fun _ => ⟨_, rfl, rfl⟩) Tryz.underlying145 (fun a b => (show eqV Tryz.prog 10000 145 (mk110E a) (mk110E b) = some ((a.1 == b.1) && ((a.2 == b.2) && true)) from by kernel_rfl).trans (congrArg some (by rw [Bool.eq_iff_iff]; simp [Prod.ext_iff]))) (fun _ => rfl)
def m111 (x : Int) : V := .int .i64 x
theorem kE111 : KeyE Tryz.prog 3 (V.int .i64) := keyE_plain Tryz.underlying3 (keyEq_int .i64) (fun _ => rfl) (fun _ => rfl)
def eIIS (x : Tq2) : List V := [.int .i64 x.1, .int .i64 x.2.1, .str x.2.2]
def mk112E (x : Tq2) : V := .agg [.int .i64 x.1, .int .i64 x.2.1, .str x.2.2]
def m112 (x : Bool) : V := .bool x
theorem kE112 : KeyE Tryz.prog 88 mk112E := keyE_struct (default : Tq2) (fun _ => ⟨_, rfl, rfl⟩) Tryz.underlying88 (fun a b => (show eqV Tryz.prog 10000 88 (mk112E a) (mk112E b) = some ((a.1 == b.1) && ((a.2.1 == b.2.1) && ((a.2.2 == b.2.2) && true))) from by kernel_rfl).trans (congrArg some (by rw [Bool.eq_iff_iff]; simp [Prod.ext_iff]))) (fun _ => rfl)
def mk113E (x : Tq0) : V := .agg [.int .i64 x.1, .int .i64 x.2]
def m113 (x : Bool) : V := .bool x
theorem kE113 : KeyE Tryz.prog 145 mk113E := keyE_struct (default : Tq0) (fun _ => ⟨_, rfl, rfl⟩) Tryz.underlying145 (fun a b => (show eqV Tryz.prog 10000 145 (mk113E a) (mk113E b) = some ((a.1 == b.1) && ((a.2 == b.2) && true)) from by kernel_rfl).trans (congrArg some (by rw [Bool.eq_iff_iff]; simp [Prod.ext_iff]))) (fun _ => rfl)
def cs0 : List UInt8 := [0, 1, 2, 2, 3, 3, 3, 3, 4, 4, 4, 4, 4, 4, 4, 4, 5, 5, 5, 5, 5, 5, 5, 5, 5, 5, 5, 5, 5, 5, 5, 5, 6, 6, 6, 6, 6, 6, 6, 6, 6, 6, 6, 6, 6, 6, 6, 6, 6, 6, 6, 6, 6, 6, 6, 6, 6, 6, 6, 6, 6, 6, 6, 6, 7, 7, 7, 7, 7, 7, 7, 7, 7, 7, 7, 7, 7, 7, 7, 7, 7, 7, 7, 7, 7, 7, 7, 7, 7, 7, 7, 7, 7, 7, 7, 7, 7, 7, 7, 7, 7, 7, 7, 7, 7, 7, 7, 7, 7, 7, 7, 7, 7, 7, 7, 7, 7, 7, 7, 7, 7, 7, 7, 7, 7, 7, 7, 7, 8, 8, 8, 8, 8, 8, 8, 8, 8, 8, 8, 8, 8, 8, 8, 8, 8, 8, 8, 8, 8, 8, 8, 8, 8, 8, 8, 8, 8, 8, 8, 8, 8, 8, 8, 8, 8, 8, 8, 8, 8, 8, 8, 8, 8, 8, 8, 8, 8, 8, 8, 8, 8, 8, 8, 8, 8, 8, 8, 8, 8, 8, 8, 8, 8, 8, 8, 8, 8, 8, 8, 8, 8, 8, 8, 8, 8, 8, 8, 8, 8, 8, 8, 8, 8, 8, 8, 8, 8, 8, 8, 8, 8, 8, 8, 8, 8, 8, 8, 8, 8, 8, 8, 8, 8, 8, 8, 8, 8, 8, 8, 8, 8, 8, 8, 8, 8, 8, 8, 8, 8, 8, 8, 8, 8, 8, 8, 8]
def cs1 : List UInt8 := [102, 105, 110, 105, 115, 104]
def cs2 : List UInt8 := [98, 97, 116, 99, 104]
instance : DecidableEq (Int × Int × Int × List (BitVec 16) × List (BitVec 16) × (List Tq1)) := @instDecidableEqProd Int _ inferInstance (@instDecidableEqProd Int _ inferInstance (@instDecidableEqProd Int _ inferInstance (@instDecidableEqProd (List (BitVec 16)) _ inferInstance (@instDecidableEqProd (List (BitVec 16)) _ inferInstance (inferInstance)))))
def eT129 (x : Int × Int × Int × List (BitVec 16) × List (BitVec 16) × (List Tq1)) : List V := [.int .u8 x.1, .int .u8 x.2.1, .int .u8 x.2.2.1, vL 1 eW 0#16 x.2.2.2.1, vL 1 eW 0#16 x.2.2.2.2.1, vL 2 eWW (default : Tq1) x.2.2.2.2.2]
def eIB (x : Tq3) : List V := [.int .i64 x.1, .bool x.2]
theorem eIB_flat (x : Tq3) (j : Nat) : ((eIB x).getD j .any).flat = true := by
 match j with
 | 0 => rfl
 | 1 => rfl
 | _ + 2 => rfl
abbrev q1aT51 (l : List (Y51)) : V := vL 28 eT51 (default : Y51) l
abbrev q1bT51_51 (l : List (Y51)) : Blk := bL 51 28 eT51 (default : Y51) l
abbrev q1dT51 : Y51 := default
abbrev q1aI (l : List (Int)) : V := vL 1 eI 0 l
abbrev q1bI_3 (l : List (Int)) : Blk := bL 3 1 eI 0 l
abbrev q1aS (l : List (List UInt8)) : V := vL 1 eS [] l
abbrev q1bS_9 (l : List (List UInt8)) : Blk := bL 9 1 eS [] l
abbrev q1aSW (l : List Tq5) : V := vL 2 eSW (default : Tq5) l
abbrev q1bSW_126 (l : List Tq5) : Blk := bL 126 2 eSW (default : Tq5) l
abbrev q1aW (l : List (BitVec 16)) : V := vL 1 eW 0#16 l
abbrev q1bW_31 (l : List (BitVec 16)) : Blk := bL 31 1 eW 0#16 l
abbrev q1bW_32 (l : List (BitVec 16)) : Blk := bL 32 1 eW 0#16 l
abbrev q1aWW (l : List Tq1) : V := vL 2 eWW (default : Tq1) l
abbrev q1bWW_186 (l : List Tq1) : Blk := bL 186 2 eWW (default : Tq1) l
abbrev q1dWW : BitVec 16 × BitVec 16 := default
abbrev q1aT73 (l : List (List UInt8 × Int × BitVec 16 × List (BitVec 16) × List (BitVec 16) × (List Tq1))) : V := vL 6 eT73 (default : List UInt8 × Int × BitVec 16 × List (BitVec 16) × List (BitVec 16) × (List Tq1)) l
abbrev q1aSBLWWJ (l : List (List UInt8 × Bool × (List Tq1))) : V := vL 3 eSBLWWJ (default : List UInt8 × Bool × (List Tq1)) l
abbrev q1dII : Int × Int := default
abbrev q1aIIS (l : List Tq2) : V := vL 3 eIIS (default : Tq2) l
abbrev q1bIIS_88 (l : List Tq2) : Blk := bL 88 3 eIIS (default : Tq2) l
abbrev q1dIIS : Int × Int × List UInt8 := default
abbrev q1dT129 : Int × Int × Int × List (BitVec 16) × List (BitVec 16) × (List Tq1) := default
abbrev q1aIB (l : List Tq3) : V := vL 2 eIB (default : Tq3) l
abbrev q1bIB_77 (l : List Tq3) : Blk := bL 77 2 eIB (default : Tq3) l
abbrev q1dIB : Int × Bool := default
abbrev q1w16 (i : Int) : BitVec 16 := BitVec.ofInt 16 i
theorem q1rq {Q : Exit → S → Prop} {id : Nat} {draw : Bool} {y : Code} (W : List Nat) (calls : List (Nat × CC)) {l : List Oper} {s : S} (s' : S) {φ : Prop} (hφ : φ) (hQ : AWp Tryz.prog y Q s') (h : Abs.regC Tryz.prog W draw calls (s'.t.map (·.1)) (s'.h.map (·.1)) l s = some (s', φ) := by kernel_rfl) : AWp Tryz.prog (.seq (.region id l.toArray draw) y) Q s := AWp.sq W calls _ _ s' φ Tryz_mixed h hφ hQ
theorem q1rr {Q : Exit → S → Prop} {id : Nat} {draw : Bool} (W : List Nat) (calls : List (Nat × CC)) {l : List Oper} {s : S} (s' : S) {φ : Prop} (hφ : φ) (hQ : Q .normal s') (h : Abs.regC Tryz.prog W draw calls (s'.t.map (·.1)) (s'.h.map (·.1)) l s = some (s', φ) := by kernel_rfl) : AWp Tryz.prog (.region id l.toArray draw) Q s := AWp.regC W calls _ _ s' φ Tryz_mixed h hφ hQ
abbrev f57z0 (x3 : Int) := (decide (x3 ≥ (0 : Int)))
def f57 (x1 : Int) (x2 : Int) (x3 : Int) (x4 : Int) (x5 : Int) (x6 : List UInt8) (x7 : List UInt8) : Option Bool :=
 some ((decide (x3 ≥ (0 : Int))) && (decide (x3 < (6 : Int))))
theorem f57_ok  (x1 : Int) (x2 : Int) (x3 : Int) (x4 : Int) (x5 : Int) (x6 : List UInt8) (x7 : List UInt8) (r : Bool) (h : f57 x1 x2 x3 x4 x5 x6 x7 = some r)  : Spec1 Tryz.prog 57 [] [] [] [.agg [.int .i64 x1, .int .i64 x2, .int .i64 x3, .int .i64 x4, .int .i64 x5, .str x6, .str x7, .opq, .opq, .opq, .opq, .opq, .opq, .opq, .opq, .opq, .opq, .opq, .opq, .opq, .opq, .opq, .opq, .opq, .opq, .opq, .opq, .opq]] (.bool r) [] := by
 unfold f57 at h
 refine Spec1.body 0 _ _ Tryz.func57 rfl Tryz.ntmps57 rfl rfl ?_
 refine q1rq [] [] ⟨11, [(1, .ptr 1 0)], [(1, .cells 51 [.i x1, .i x2, .i x3, .i x4, .i x5, .str x6, .str x7, .opq, .opq, .opq, .opq, .opq, .opq, .opq, .opq, .opq, .opq, .opq, .opq, .opq, .opq, .opq, .opq, .opq, .opq, .opq, .opq, .opq])], [], 0⟩ trivial ?_
 refine AWp.seq ?_
 have ob0 := idA (((f57z0 x3) == true) = true)
 have ob1 := idA (((f57z0 x3) == true) = true)
 have ob2 := bqA (f57z0 x3) true
 refine q1rr [] [] ⟨11, [(2, .bool ((f57z0 x3) && (decide (x3 < (6 : Int)))))], [], [], 0⟩ (an3 (an1 ob0) (an1 ob1) ob2) ?_
 refine tN ?_
 have hret := Option.some.inj h
 subst hret
 refine AWp.le (Le.mk (s' := ⟨11, [(2, .bool ((f57z0 x3) && (decide (x3 < (6 : Int)))))], [], [], 0⟩) rfl rfl ⟨.refl _, trivial⟩ trivial) ?_
 refine AWp.ret ?_
 exact bR _ rfl ⟨rfl, rfl⟩ rfl
abbrev f50z0 (x1 : Int) (x2 : Int) (x3 : Int) (x4 : Int) (x5 : Int) (x6 : List UInt8) (x7 : List UInt8) : List V := [.int .i64 x1, .int .i64 x2, .int .i64 x3, .int .i64 x4, .int .i64 x5, .str x6, .str x7, .opq, .opq, .opq, .opq, .opq, .opq, .opq, .opq, .opq, .opq, .opq, .opq, .opq, .opq, .opq, .opq, .opq, .opq, .opq, .opq, .opq]
abbrev f50z1 (x2 : Int) (x3 : Int) := ((x2 == (4 : Int)) && (decide (x3 ≥ (0 : Int))))
def f50 (x1 : Int) (x2 : Int) (x3 : Int) (x4 : Int) (x5 : Int) (x6 : List UInt8) (x7 : List UInt8) : Option Tq3 :=
 if (((x2 == (4 : Int)) && (decide (x3 ≥ (0 : Int)))) && (decide (x3 < (12 : Int)))) then (
 some (x3, true)
 ) else (
 optc ((x2 == (3 : Int)) == true) (f57 x1 x2 x3 x4 x5 x6 x7) fun (r8 : Bool) =>
 if ((x2 == (3 : Int)) && r8) then (
 chk (-9223372036854775808 ≤ ((12 : Int) + x3) ∧ ((12 : Int) + x3) ≤ 9223372036854775807) <|
 some (((12 : Int) + x3), true)
 ) else (
 some ((0 : Int), false)
 )
 )
theorem f50_ok  (x1 : Int) (x2 : Int) (x3 : Int) (x4 : Int) (x5 : Int) (x6 : List UInt8) (x7 : List UInt8) (r : Tq3) (h : f50 x1 x2 x3 x4 x5 x6 x7 = some r)  : Spec1 Tryz.prog 50 [] [] [] [.agg [.int .i64 x1, .int .i64 x2, .int .i64 x3, .int .i64 x4, .int .i64 x5, .str x6, .str x7, .opq, .opq, .opq, .opq, .opq, .opq, .opq, .opq, .opq, .opq, .opq, .opq, .opq, .opq, .opq, .opq, .opq, .opq, .opq, .opq, .opq]] (.tup [.int .i64 r.1, .bool r.2]) [] := by
 unfold f50 at h
 refine Spec1.body 0 _ _ Tryz.func50 rfl Tryz.ntmps50 rfl rfl ?_
 refine q1rq [] [] ⟨31, [(1, .ptr 1 0)], [(1, .cells 51 (f50z0 x1 x2 x3 x4 x5 x6 x7))], [], 0⟩ trivial ?_
 refine AWp.seq ?_
 refine AWp.block ?_
 refine AWp.seq ?_
 have ob0 := idA (((x2 == (4 : Int)) == true) = true)
 have ob1 := idA (((x2 == (4 : Int)) == true) = true)
 have ob2 := bqA (x2 == (4 : Int)) true
 have ob3 := idA (((f50z1 x2 x3) == true) = true)
 have ob4 := idA (((f50z1 x2 x3) == true) = true)
 have ob5 := bqA (f50z1 x2 x3) true
 refine q1rr [] [] ⟨31, [(1, .ptr 1 0), (4, .bool ((f50z1 x2 x3) && (decide (x3 < (12 : Int)))))], [(1, .cells 51 (f50z0 x1 x2 x3 x4 x5 x6 x7))], [], 0⟩ (an6 (an1 ob0) (an1 ob1) ob2 (an1 ob3) (an1 ob4) ob5) ?_
 refine tN ?_
 refine AWp.cond (b := ((f50z1 x2 x3) && (decide (x3 < (12 : Int))))) (by kernel_rfl) (fun hc1 => ?_) (fun hc1 => ?_)
 ·
  replace h := ite_tb hc1 h
  refine q1rq [] [] ⟨31, [(2, .i x3), (3, .bool true)], [], [], 0⟩ trivial ?_
  have hret := Option.some.inj h
  subst hret
  refine AWp.le (Le.mk (s' := ⟨31, [(2, .i x3), (3, .bool true)], [], [], 0⟩) rfl rfl ⟨.refl _, .refl _, trivial⟩ trivial) ?_
  refine AWp.ret ?_
  refine kR ?_
  refine tR ?_
  exact bR _ rfl ⟨rfl, rfl⟩ rfl
 ·
  replace h := ite_fb hc1 h
  refine AWp.seq ?_
  obtain ⟨r8, hr8, h⟩ := optc_some h
  have ob6 := idA (((x2 == (3 : Int)) == true) = true)
  have ob7 := bqA (x2 == (3 : Int)) true
  refine q1rr [] [(5, ⟨[.agg (f50z0 x1 x2 x3 x4 x5 x6 x7)], [], [], [], .bool r8, [], [], []⟩)] ⟨31, [(1, .ptr 1 0), (20, .bool ((x2 == (3 : Int)) && r8))], [(1, .cells 51 (f50z0 x1 x2 x3 x4 x5 x6 x7))], [], 0⟩ (an2 (And.intro (cpC fun hc => (f57_ok _ _ _ _ _ _ _ _ (hr8 hc))) (an1 ob6)) ob7) ?_
  refine tN ?_
  refine AWp.cond (b := ((x2 == (3 : Int)) && r8)) (by kernel_rfl) (fun hc2 => ?_) (fun hc2 => ?_)
  ·
   replace h := ite_tb hc2 h
   refine AWp.seq ?_
   obtain ⟨ob8, h⟩ := chk_some h
   refine q1rr [] [] ⟨31, [(2, .i ((12 : Int) + x3)), (3, .bool true)], [], [], 0⟩ (an1 ob8) ?_
   refine tN ?_
   have hret := Option.some.inj h
   subst hret
   refine AWp.le (Le.mk (s' := ⟨31, [(2, .i ((12 : Int) + x3)), (3, .bool true)], [], [], 0⟩) rfl rfl ⟨.refl _, .refl _, trivial⟩ trivial) ?_
   refine AWp.ret ?_
   refine kR ?_
   refine tR ?_
   exact bR _ rfl ⟨rfl, rfl⟩ rfl
  ·
   replace h := ite_fb hc2 h
   refine AWp.skip ?_
   refine kN ?_
   refine tN ?_
   refine q1rq [] [] ⟨31, [(2, .i (0 : Int)), (3, .bool false)], [], [], 0⟩ trivial ?_
   have hret := Option.some.inj h
   subst hret
   refine AWp.le (Le.mk (s' := ⟨31, [(2, .i (0 : Int)), (3, .bool false)], [], [], 0⟩) rfl rfl ⟨.refl _, .refl _, trivial⟩ trivial) ?_
   refine AWp.ret ?_
   exact bR _ rfl ⟨rfl, rfl⟩ rfl
def f101 (x1 : Int) : Option Bool :=
 some (x1 != x1)
theorem f101_ok  (x1 : Int) (r : Bool) (h : f101 x1 = some r)  : Spec1 Tryz.prog 101 [] [] [] [.int .i64 x1] (.bool r) [] := by
 unfold f101 at h
 refine Spec1.body 0 _ _ Tryz.func101 rfl Tryz.ntmps101 rfl rfl ?_
 refine q1rq [] [] ⟨6, [(0, .i x1)], [], [], 0⟩ trivial ?_
 refine q1rq [] [] ⟨6, [(2, .bool (x1 != x1))], [], [], 0⟩ trivial ?_
 have hret := Option.some.inj h
 subst hret
 refine AWp.le (Le.mk (s' := ⟨6, [(2, .bool (x1 != x1))], [], [], 0⟩) rfl rfl ⟨.refl _, trivial⟩ trivial) ?_
 refine AWp.ret ?_
 exact bR _ rfl ⟨rfl, rfl⟩ rfl
def f71 (x1 : Int) (x2 : Int) : Option Int :=
 (f101 x1).bind fun (r3 : Bool) =>
 (f101 x2).bind fun (r4 : Bool) =>
 if r3 then (
 if r4 then (
 some (0 : Int)
 ) else (
 some (-1 : Int)
 )
 ) else (
 if r4 then (
 some (1 : Int)
 ) else (
 if (decide (x1 < x2)) then (
 some (-1 : Int)
 ) else (
 if (decide (x1 > x2)) then (
 some (1 : Int)
 ) else (
 some (0 : Int)
 )
 )
 )
 )
theorem f71_ok  (x1 : Int) (x2 : Int) (r : Int) (h : f71 x1 x2 = some r)  : Spec1 Tryz.prog 71 [] [] [] [.int .i64 x1, .int .i64 x2] (.int .i64 r) [] := by
 unfold f71 at h
 refine Spec1.body 0 _ _ Tryz.func71 rfl Tryz.ntmps71 rfl rfl ?_
 refine q1rq [] [] ⟨20, [(0, .i x1), (1, .i x2)], [], [], 0⟩ trivial ?_
 refine AWp.seq ?_
 obtain ⟨r3, hr3, h⟩ := bind_ok h
 refine q1rr [] [(1, ⟨[.i x1], [], [], [], .bool r3, [], [], []⟩)] ⟨20, [(0, .i x1), (1, .i x2), (5, .bool r3)], [], [], 0⟩ (an1 (cpT (f101_ok _ _ hr3))) ?_
 refine tN ?_
 refine AWp.seq ?_
 obtain ⟨r4, hr4, h⟩ := bind_ok h
 refine q1rr [] [(1, ⟨[.i x2], [], [], [], .bool r4, [], [], []⟩)] ⟨20, [(0, .i x1), (1, .i x2), (5, .bool r3), (6, .bool r4)], [], [], 0⟩ (an1 (cpT (f101_ok _ _ hr4))) ?_
 refine tN ?_
 refine AWp.seq ?_
 refine q1rq [] [] ⟨20, [(0, .i x1), (1, .i x2), (6, .bool r4), (11, .bool r3)], [], [], 0⟩ trivial ?_
 refine AWp.cond (b := r3) (by kernel_rfl) (fun hc1 => ?_) (fun hc1 => ?_)
 ·
  replace h := ite_tb hc1 h
  refine AWp.seq ?_
  refine q1rq [] [] ⟨20, [(12, .bool r4)], [], [], 0⟩ trivial ?_
  refine AWp.cond (b := r4) (by kernel_rfl) (fun hc2 => ?_) (fun hc2 => ?_)
  ·
   replace h := ite_tb hc2 h
   refine q1rq [] [] ⟨20, [(4, .i (0 : Int))], [], [], 0⟩ trivial ?_
   have hret := Option.some.inj h
   subst hret
   refine AWp.le (Le.mk (s' := ⟨20, [(4, .i (0 : Int))], [], [], 0⟩) rfl rfl ⟨.refl _, trivial⟩ trivial) ?_
   refine AWp.ret ?_
   refine tR ?_
   refine tR ?_
   exact bR _ rfl ⟨rfl, rfl⟩ rfl
  ·
   replace h := ite_fb hc2 h
   refine AWp.skip ?_
   refine tN ?_
   refine q1rq [] [] ⟨20, [(4, .i (-1 : Int))], [], [], 0⟩ trivial ?_
   have hret := Option.some.inj h
   subst hret
   refine AWp.le (Le.mk (s' := ⟨20, [(4, .i (-1 : Int))], [], [], 0⟩) rfl rfl ⟨.refl _, trivial⟩ trivial) ?_
   refine AWp.ret ?_
   refine tR ?_
   exact bR _ rfl ⟨rfl, rfl⟩ rfl
 ·
  replace h := ite_fb hc1 h
  refine AWp.skip ?_
  refine tN ?_
  refine AWp.seq ?_
  refine q1rq [] [] ⟨20, [(0, .i x1), (1, .i x2), (13, .bool r4)], [], [], 0⟩ trivial ?_
  refine AWp.cond (b := r4) (by kernel_rfl) (fun hc3 => ?_) (fun hc3 => ?_)
  ·
   replace h := ite_tb hc3 h
   refine q1rq [] [] ⟨20, [(4, .i (1 : Int))], [], [], 0⟩ trivial ?_
   have hret := Option.some.inj h
   subst hret
   refine AWp.le (Le.mk (s' := ⟨20, [(4, .i (1 : Int))], [], [], 0⟩) rfl rfl ⟨.refl _, trivial⟩ trivial) ?_
   refine AWp.ret ?_
   refine tR ?_
   exact bR _ rfl ⟨rfl, rfl⟩ rfl
  ·
   replace h := ite_fb hc3 h
   refine AWp.skip ?_
   refine tN ?_
   refine AWp.seq ?_
   refine q1rq [] [] ⟨20, [(0, .i x1), (1, .i x2), (16, .bool (decide (x1 < x2)))], [], [], 0⟩ trivial ?_
   refine AWp.cond (b := (decide (x1 < x2))) (by kernel_rfl) (fun hc4 => ?_) (fun hc4 => ?_)
   ·
    replace h := ite_tb hc4 h
    refine q1rq [] [] ⟨20, [(4, .i (-1 : Int))], [], [], 0⟩ trivial ?_
    have hret := Option.some.inj h
    subst hret
    refine AWp.le (Le.mk (s' := ⟨20, [(4, .i (-1 : Int))], [], [], 0⟩) rfl rfl ⟨.refl _, trivial⟩ trivial) ?_
    refine AWp.ret ?_
    refine tR ?_
    exact bR _ rfl ⟨rfl, rfl⟩ rfl
   ·
    replace h := ite_fb hc4 h
    refine AWp.skip ?_
    refine tN ?_
    refine AWp.seq ?_
    refine q1rq [] [] ⟨20, [(19, .bool (decide (x1 > x2)))], [], [], 0⟩ trivial ?_
    refine AWp.cond (b := (decide (x1 > x2))) (by kernel_rfl) (fun hc5 => ?_) (fun hc5 => ?_)
    ·
     replace h := ite_tb hc5 h
     refine q1rq [] [] ⟨20, [(4, .i (1 : Int))], [], [], 0⟩ trivial ?_
     have hret := Option.some.inj h
     subst hret
     refine AWp.le (Le.mk (s' := ⟨20, [(4, .i (1 : Int))], [], [], 0⟩) rfl rfl ⟨.refl _, trivial⟩ trivial) ?_
     refine AWp.ret ?_
     refine tR ?_
     exact bR _ rfl ⟨rfl, rfl⟩ rfl
    ·
     replace h := ite_fb hc5 h
     refine AWp.skip ?_
     refine tN ?_
     refine q1rq [] [] ⟨20, [(4, .i (0 : Int))], [], [], 0⟩ trivial ?_
     have hret := Option.some.inj h
     subst hret
     refine AWp.le (Le.mk (s' := ⟨20, [(4, .i (0 : Int))], [], [], 0⟩) rfl rfl ⟨.refl _, trivial⟩ trivial) ?_
     refine AWp.ret ?_
     exact bR _ rfl ⟨rfl, rfl⟩ rfl
def f51_L0 (x1 : List Int) (x2 : List Int) (K1 : Unit → Option Int) : Nat → Nat → Option Int
 | 0, _ => none
 | k + 1, n3 =>
  if (decide ((n3 : Int) < (((x1).length : Nat) : Int))) then (
  chk ((n3 : Int) < (((x1).length : Nat) : Int)) <|
  if (decide ((n3 : Int) ≥ (((x2).length : Nat) : Int))) then (
  some (1 : Int)
  ) else (
  chk ((n3 : Int) < (((x2).length : Nat) : Int)) <|
  (f71 (x1.getD n3 0) (x2.getD n3 0)).bind fun (r4 : Int) =>
  if (r4 != (0 : Int)) then (
  some r4
  ) else (
  chk (((n3 : Int) + (1 : Int)) ≤ 9223372036854775807) <|
  (f51_L0 x1 x2 K1 k) (n3 + 1)
  )
  )
  ) else (
  K1 ()
  )
def f51 (x1 : List Int) (x2 : List Int) : Option Int :=
 jn (fun (_ : Unit) =>
 if (decide ((((x1).length : Nat) : Int) < (((x2).length : Nat) : Int))) then (
 some (-1 : Int)
 ) else (
 some (0 : Int)
 )
 ) fun (K1 : Unit → Option Int) =>
 f51_L0 x1 x2 K1 FUEL 0
theorem f51_ok  (x1 : List Int) (x2 : List Int) (r : Int) (h : f51 x1 x2 = some r)  : Spec1 Tryz.prog 51 [] [] [] [vL 1 eI 0 x1, vL 1 eI 0 x2] (.int .i64 r) [] := by
 unfold f51 at h
 refine Spec1.body 0 _ _ Tryz.func51 rfl Tryz.ntmps51 rfl rfl ?_
 refine q1rq [] [] ⟨36, [(0, q1aI x1), (1, q1aI x2)], [], [], 0⟩ trivial ?_
 obtain ⟨K1, hK1, h⟩ := jn_some h
 refine AWp.join (α := Unit) (fun (x : Unit) => match x with | () => ⟨36, [(0, q1aI x1), (1, q1aI x2)], [], [], 0⟩) (fun x => K1 x = some r) ?_ ?_
 ·
  refine q1rq [] [] ⟨36, [(0, q1aI x1), (1, q1aI x2), (9, q1aI x1), (10, .i (lZ x1)), (11, .i (0 : Int))], [], [], 0⟩ trivial ?_
  refine AWp.block ?_
  refine AWp.loopL (α := Nat × Nat) (fun x => match x with | (_, n3) => ⟨36, [(0, q1aI x1), (1, q1aI x2), (9, q1aI x1), (10, .i (lZ x1)), (11, .i (n3 : Int))], [], [], 0⟩) (fun x => f51_L0 x1 x2 K1 x.1 x.2 = some r) (fun x => x.1) (FUEL, 0) (Le.mk (s' := ⟨36, [(0, q1aI x1), (1, q1aI x2), (9, q1aI x1), (10, .i (lZ x1)), (11, .i (0 : Int))], [], [], 0⟩) rfl rfl ⟨.refl _, .refl _, .refl _, .refl _, .refl _, trivial⟩ trivial) h ?_
  rintro ⟨k0, n3⟩ h
  cases k0 with
  | zero => exact nomatch (show (none : Option Int) = some r from h)
  | succ k0 =>
  obtain ⟨C0, hC0⟩ : ∃ C, C = f51_L0 x1 x2 K1 k0 := ⟨_, rfl⟩
  replace h := (f51_L0.eq_2 ..).symm.trans h
  try rw [← hC0] at h
  refine q1rq [] [] ⟨36, [(0, q1aI x1), (1, q1aI x2), (9, q1aI x1), (10, .i (lZ x1)), (11, .i (n3 : Int)), (12, .bool (decide ((n3 : Int) < (lZ x1))))], [], [], 0⟩ trivial ?_
  refine AWp.seq ?_
  refine AWp.cond (b := (decide ((n3 : Int) < (lZ x1)))) (by kernel_rfl) (fun hc1 => ?_) (fun hc1 => ?_)
  ·
   replace h := ite_tb hc1 h
   refine AWp.skip ?_
   refine tN ?_
   refine AWp.seq ?_
   refine AWp.block ?_
   refine AWp.seq ?_
   obtain ⟨ob0p, h⟩ := chk_some h
   have ob0 : 0 ≤ (n3 : Int) ∧ (n3 : Int) < (((x1).length : Nat) : Int) := ⟨by omega, ob0p⟩
   refine q1rr [] [] ⟨36, [(0, q1aI x1), (1, q1aI x2), (5, .i (n3 : Int)), (6, .i (x1.getD n3 0)), (9, q1aI x1), (10, .i (lZ x1)), (11, .i (n3 : Int))], [], [], 0⟩ (an1 ob0) ?_
   refine tN ?_
   refine AWp.seq ?_
   refine q1rq [] [] ⟨36, [(0, q1aI x1), (1, q1aI x2), (5, .i (n3 : Int)), (6, .i (x1.getD n3 0)), (9, q1aI x1), (10, .i (lZ x1)), (11, .i (n3 : Int)), (19, .bool (decide ((n3 : Int) ≥ (lZ x2))))], [], [], 0⟩ trivial ?_
   refine AWp.cond (b := (decide ((n3 : Int) ≥ (lZ x2)))) (by kernel_rfl) (fun hc2 => ?_) (fun hc2 => ?_)
   ·
    replace h := ite_tb hc2 h
    refine q1rq [] [] ⟨36, [(4, .i (1 : Int))], [], [], 0⟩ trivial ?_
    have hret := Option.some.inj h
    subst hret
    refine AWp.le (Le.mk (s' := ⟨36, [(4, .i (1 : Int))], [], [], 0⟩) rfl rfl ⟨.refl _, trivial⟩ trivial) ?_
    refine AWp.ret ?_
    refine tR ?_
    refine kR ?_
    refine tR ?_
    refine tR ?_
    refine kR ?_
    refine joinQ_ret ?_
    exact bR _ rfl ⟨rfl, rfl⟩ rfl
   ·
    replace h := ite_fb hc2 h
    refine AWp.skip ?_
    refine tN ?_
    refine AWp.seq ?_
    obtain ⟨ob1p, h⟩ := chk_some h
    have ob1 : 0 ≤ (n3 : Int) ∧ (n3 : Int) < (((x2).length : Nat) : Int) := ⟨by omega, ob1p⟩
    refine q1rr [] [] ⟨36, [(0, q1aI x1), (1, q1aI x2), (6, .i (x1.getD n3 0)), (7, .i (x2.getD n3 0)), (9, q1aI x1), (10, .i (lZ x1)), (11, .i (n3 : Int))], [], [], 0⟩ (an1 ob1) ?_
    refine tN ?_
    refine AWp.seq ?_
    obtain ⟨r4, hr4, h⟩ := bind_ok h
    refine q1rr [] [(2, ⟨[.i (x1.getD n3 0), .i (x2.getD n3 0)], [], [], [], .i r4, [], [], []⟩)] ⟨36, [(0, q1aI x1), (1, q1aI x2), (8, .i r4), (9, q1aI x1), (10, .i (lZ x1)), (11, .i (n3 : Int))], [], [], 0⟩ (an1 (cpT (f71_ok _ _ _ hr4))) ?_
    refine tN ?_
    refine q1rq [] [] ⟨36, [(0, q1aI x1), (1, q1aI x2), (8, .i r4), (9, q1aI x1), (10, .i (lZ x1)), (11, .i (n3 : Int)), (28, .bool (r4 != (0 : Int)))], [], [], 0⟩ trivial ?_
    refine AWp.cond (b := (r4 != (0 : Int))) (by kernel_rfl) (fun hc3 => ?_) (fun hc3 => ?_)
    ·
     replace h := ite_tb hc3 h
     refine q1rq [] [] ⟨36, [(4, .i r4)], [], [], 0⟩ trivial ?_
     have hret := Option.some.inj h
     subst hret
     refine AWp.le (Le.mk (s' := ⟨36, [(4, .i r4)], [], [], 0⟩) rfl rfl ⟨.refl _, trivial⟩ trivial) ?_
     refine AWp.ret ?_
     refine kR ?_
     refine tR ?_
     refine tR ?_
     refine kR ?_
     refine joinQ_ret ?_
     exact bR _ rfl ⟨rfl, rfl⟩ rfl
    ·
     replace h := ite_fb hc3 h
     refine AWp.skip ?_
     refine kN ?_
     refine tN ?_
     obtain ⟨ob2p, h⟩ := chk_some h
     have ob2 : -9223372036854775808 ≤ ((n3 : Int) + (1 : Int)) ∧ ((n3 : Int) + (1 : Int)) ≤ 9223372036854775807 := ⟨by omega, ob2p⟩
     refine q1rr [] [] ⟨36, [(0, q1aI x1), (1, q1aI x2), (9, q1aI x1), (10, .i (lZ x1)), (11, .i (((n3 + 1) : Nat) : Int))], [], [], 0⟩ (an1 ob2) ?_
     rw [hC0] at h
     exact lN (_, (n3 + 1)) (Le.mk rfl rfl ⟨.refl _, .refl _, .refl _, .refl _, .refl _, trivial⟩ trivial) h (Nat.lt_succ_self _)
  ·
   replace h := ite_fb hc1 h
   refine AWp.exit ?_
   refine tE ?_
   refine tE ?_
   refine kS ?_
   exact jN () (Le.mk rfl rfl ⟨.refl _, .refl _, trivial⟩ trivial) h
 ·
  rintro ⟨⟩ h
  replace h := (congrFun hK1 _).symm.trans h
  refine AWp.seq ?_
  refine q1rq [] [] ⟨36, [(35, .bool (decide ((lZ x1) < (lZ x2))))], [], [], 0⟩ trivial ?_
  refine AWp.cond (b := (decide ((lZ x1) < (lZ x2)))) (by kernel_rfl) (fun hc4 => ?_) (fun hc4 => ?_)
  ·
   replace h := ite_tb hc4 h
   refine q1rq [] [] ⟨36, [(4, .i (-1 : Int))], [], [], 0⟩ trivial ?_
   have hret := Option.some.inj h
   subst hret
   refine AWp.le (Le.mk (s' := ⟨36, [(4, .i (-1 : Int))], [], [], 0⟩) rfl rfl ⟨.refl _, trivial⟩ trivial) ?_
   refine AWp.ret ?_
   refine tR ?_
   exact bR _ rfl ⟨rfl, rfl⟩ rfl
  ·
   replace h := ite_fb hc4 h
   refine AWp.skip ?_
   refine tN ?_
   refine q1rq [] [] ⟨36, [(4, .i (0 : Int))], [], [], 0⟩ trivial ?_
   have hret := Option.some.inj h
   subst hret
   refine AWp.le (Le.mk (s' := ⟨36, [(4, .i (0 : Int))], [], [], 0⟩) rfl rfl ⟨.refl _, trivial⟩ trivial) ?_
   refine AWp.ret ?_
   exact bR _ rfl ⟨rfl, rfl⟩ rfl
def f22_L1 (x1 : List Y51) (n2 : Nat) (K2 : Tq6 → Option (Int × Int × Int × Int)) (r6 : Tq3) : Nat → (Nat × Int × Int × Int) → Option (Int × Int × Int × Int)
 | 0, _ => none
 | k + 1, (n11, i12, i13, i14) =>
  if (decide ((n11 : Int) < (((x1).length : Nat) : Int))) then (
  jn (fun ((i17, i18, i19) : Tq6) =>
  chk (((n11 : Int) + (1 : Int)) ≤ 9223372036854775807) <|
  (f22_L1 x1 n2 K2 r6 k) ((n11 + 1), i17, i18, i19)
  ) fun (K3 : Tq6 → Option (Int × Int × Int × Int)) =>
  chk ((n11 : Int) < (((x1).length : Nat) : Int)) <|
  (f50 ((x1.getD n11 (default : Y51)).1) ((x1.getD n11 (default : Y51)).2.1) ((x1.getD n11 (default : Y51)).2.2.1) ((x1.getD n11 (default : Y51)).2.2.2.1) ((x1.getD n11 (default : Y51)).2.2.2.2.1) ((x1.getD n11 (default : Y51)).2.2.2.2.2.1) ((x1.getD n11 (default : Y51)).2.2.2.2.2.2)).bind fun (r15 : Tq3) =>
  if ((((!r15.2) || (decide (r15.1 < r6.1))) || ((x1.getD n2 (default : Y51)).2.2.2.1 != (x1.getD n11 (default : Y51)).2.2.2.1)) || (((x1.getD n2 (default : Y51)).2.2.2.2.2.1) == ((x1.getD n11 (default : Y51)).2.2.2.2.2.1))) then (
  K3 (i12, i13, i14)
  ) else (
  if (decide (i13 < (0 : Int))) = true then (
  K3 ((x1.getD n2 (default : Y51)).2.2.2.1, r6.1, r15.1)
  ) else (
  (f51 [(x1.getD n2 (default : Y51)).2.2.2.1, r6.1, r15.1] [i12, i13, i14]).bind fun (r20 : Int) =>
  if (decide (r20 < (0 : Int))) then (
  K3 ((x1.getD n2 (default : Y51)).2.2.2.1, r6.1, r15.1)
  ) else (
  K3 (i12, i13, i14)
  )
  )
  )
  ) else (
  K2 (i12, i13, i14)
  )
def f22_L0 (x1 : List Y51) (K1 : Tq6 → Option (Int × Int × Int × Int)) : Nat → (Nat × Int × Int × Int) → Option (Int × Int × Int × Int)
 | 0, _ => none
 | k + 1, (n2, i3, i4, i5) =>
  if (decide ((n2 : Int) < (((x1).length : Nat) : Int))) then (
  jn (fun ((i7, i9, i10) : Tq6) =>
  chk (((n2 : Int) + (1 : Int)) ≤ 9223372036854775807) <|
  (f22_L0 x1 K1 k) ((n2 + 1), i7, i9, i10)
  ) fun (K2 : Tq6 → Option (Int × Int × Int × Int)) =>
  chk ((n2 : Int) < (((x1).length : Nat) : Int)) <|
  (f50 ((x1.getD n2 (default : Y51)).1) ((x1.getD n2 (default : Y51)).2.1) ((x1.getD n2 (default : Y51)).2.2.1) ((x1.getD n2 (default : Y51)).2.2.2.1) ((x1.getD n2 (default : Y51)).2.2.2.2.1) ((x1.getD n2 (default : Y51)).2.2.2.2.2.1) ((x1.getD n2 (default : Y51)).2.2.2.2.2.2)).bind fun (r6 : Tq3) =>
  if (!r6.2) then (
  K2 (i3, i4, i5)
  ) else (
  f22_L1 x1 n2 K2 r6 FUEL (0, i3, i4, i5)
  )
  ) else (
  K1 (i3, i4, i5)
  )
abbrev f22z0 : List V := [.int .i64 (0 : Int), .int .i64 (0 : Int), .int .i64 (0 : Int)]
abbrev f22z1 (r15 : Tq3) (r6 : Tq3) := ((!r15.2) || (decide (r15.1 < r6.1)))
abbrev f22z2 (i12 : Int) (i13 : Int) (i14 : Int) : List V := [.int .i64 i12, .int .i64 i13, .int .i64 i14]
abbrev f22z3 : Heap := [(2, .cells 60 (f22z0)), (4, .cells 60 [.int .i64 (0 : Int), .int .i64 (-1 : Int), .int .i64 (0 : Int)])]
abbrev f22z4 (i3 : Int) (i4 : Int) (i5 : Int) : List V := [.int .i64 i3, .int .i64 i4, .int .i64 i5]
abbrev f22z5 (i7 : Int) (i9 : Int) (i10 : Int) : Heap := [(2, .cells 60 (f22z0)), (4, .cells 60 [.int .i64 i7, .int .i64 i9, .int .i64 i10])]
abbrev f22z6 (i3 : Int) (i4 : Int) (i5 : Int) : Heap := [(2, .cells 60 (f22z0)), (4, .cells 60 (f22z4 i3 i4 i5))]
def f22 (x1 : List Y51) : Option (Int × Int × Int × Int) :=
 jn (fun ((i21, i22, i23) : Tq6) =>
 if (decide (i22 < (0 : Int))) then (
 some ((0 : Int), (0 : Int), (0 : Int), (13 : Int))
 ) else (
 some (i21, i22, i23, (0 : Int))
 )
 ) fun (K1 : Tq6 → Option (Int × Int × Int × Int)) =>
 f22_L0 x1 K1 FUEL (0, (0 : Int), (-1 : Int), (0 : Int))
theorem f22_ok  (x1 : List Y51) (r : Int × Int × Int × Int) (h : f22 x1 = some r)  : Spec1 Tryz.prog 22 [] [] [] [vL 28 eT51 (default : Y51) x1] (.tup [.agg [.int .i64 r.1, .int .i64 r.2.1, .int .i64 r.2.2.1], .int .i64 r.2.2.2]) [] := by
 unfold f22 at h
 refine Spec1.bodyD [2] 0 _ _ Tryz.func22 rfl Tryz.ntmps22 rfl rfl ?_
 refine q1rq [] [] ⟨94, [(0, q1aT51 x1), (2, .ptr 2 0)], [(2, .cells 60 (f22z0))], [], 0⟩ trivial ?_
 refine q1rq [] [] ⟨94, [(0, q1aT51 x1), (2, .ptr 2 0), (4, .ptr 4 0)], (f22z3), [], 0⟩ (an1 trivial) ?_
 obtain ⟨K1, hK1, h⟩ := jn_some h
 refine AWp.join (α := Int × Int × Int) (fun (x : Tq6) => match x with | (i21, i22, i23) => ⟨94, [(2, .ptr 2 0), (4, .ptr 4 0)], [(2, .cells 60 (f22z0)), (4, .cells 60 [.i i21, .i i22, .i i23])], [], 0⟩) (fun x => K1 x = some r) ?_ ?_
 ·
  refine q1rq [] [] ⟨94, [(0, q1aT51 x1), (2, .ptr 2 0), (4, .ptr 4 0), (15, q1aT51 x1), (16, .i (lZ x1)), (17, .i (0 : Int))], (f22z3), [], 0⟩ trivial ?_
  refine AWp.block ?_
  refine AWp.loopL (α := Nat × (Nat × Int × Int × Int)) (fun x => match x with | (_, n2, i3, i4, i5) => ⟨94, [(0, q1aT51 x1), (2, .ptr 2 0), (4, .ptr 4 0), (15, q1aT51 x1), (16, .i (lZ x1)), (17, .i (n2 : Int))], (f22z6 i3 i4 i5), [], 0⟩) (fun x => f22_L0 x1 K1 x.1 x.2 = some r) (fun x => x.1) (FUEL, 0, (0 : Int), (-1 : Int), (0 : Int)) (Le.mk (s' := ⟨94, [(0, q1aT51 x1), (2, .ptr 2 0), (4, .ptr 4 0), (15, q1aT51 x1), (16, .i (lZ x1)), (17, .i (0 : Int))], (f22z3), [], 0⟩) rfl rfl ⟨.refl _, .refl _, .refl _, .refl _, .refl _, .refl _, trivial⟩ ⟨⟨_, rfl, .refl _⟩, ⟨_, rfl, .refl _⟩, trivial⟩) h ?_
  rintro ⟨k0, n2, i3, i4, i5⟩ h
  cases k0 with
  | zero => exact nomatch (show (none : Option (Int × Int × Int × Int)) = some r from h)
  | succ k0 =>
  obtain ⟨C0, hC0⟩ : ∃ C, C = f22_L0 x1 K1 k0 := ⟨_, rfl⟩
  replace h := (f22_L0.eq_2 ..).symm.trans h
  try rw [← hC0] at h
  refine q1rq [] [] ⟨94, [(0, q1aT51 x1), (2, .ptr 2 0), (4, .ptr 4 0), (15, q1aT51 x1), (16, .i (lZ x1)), (17, .i (n2 : Int)), (18, .bool (decide ((n2 : Int) < (lZ x1))))], (f22z6 i3 i4 i5), [], 0⟩ trivial ?_
  refine AWp.seq ?_
  refine AWp.cond (b := (decide ((n2 : Int) < (lZ x1)))) (by kernel_rfl) (fun hc1 => ?_) (fun hc1 => ?_)
  ·
   replace h := ite_tb hc1 h
   refine AWp.skip ?_
   refine tN ?_
   obtain ⟨K2, hK2, h⟩ := jn_some h
   refine AWp.join (α := Int × Int × Int) (fun (x : Tq6) => match x with | (i7, i9, i10) => ⟨94, [(0, q1aT51 x1), (2, .ptr 2 0), (4, .ptr 4 0), (15, q1aT51 x1), (16, .i (lZ x1)), (17, .i (n2 : Int))], (f22z5 i7 i9 i10), [], 0⟩) (fun x => K2 x = some r) ?_ ?_
   ·
    refine AWp.block ?_
    refine AWp.seq ?_
    obtain ⟨ob0p, h⟩ := chk_some h
    have ob0 : 0 ≤ (n2 : Int) ∧ (n2 : Int) < (((x1).length : Nat) : Int) := ⟨by omega, ob0p⟩
    refine q1rr [] [] ⟨94, [(0, q1aT51 x1), (2, .ptr 2 0), (4, .ptr 4 0), (6, .ptr 6 0), (15, q1aT51 x1), (16, .i (lZ x1)), (17, .i (n2 : Int))], [(2, .cells 60 (f22z0)), (4, .cells 60 (f22z4 i3 i4 i5)), (6, .cells 51 [.i (x1.getD n2 q1dT51).1, .i (x1.getD n2 q1dT51).2.1, .i (x1.getD n2 q1dT51).2.2.1, .i (x1.getD n2 q1dT51).2.2.2.1, .i (x1.getD n2 q1dT51).2.2.2.2.1, .str (x1.getD n2 q1dT51).2.2.2.2.2.1, .str (x1.getD n2 q1dT51).2.2.2.2.2.2, .opq, .opq, .opq, .opq, .opq, .opq, .opq, .opq, .opq, .opq, .opq, .opq, .opq, .opq, .opq, .opq, .opq, .opq, .opq, .opq, .opq])], [], 0⟩ (an2 ob0 trivial) ?_
    refine tN ?_
    refine AWp.seq ?_
    obtain ⟨r6, hr6, h⟩ := bind_ok h
    refine q1rr [] [(1, ⟨[.agg [.i (x1.getD n2 q1dT51).1, .i (x1.getD n2 q1dT51).2.1, .i (x1.getD n2 q1dT51).2.2.1, .i (x1.getD n2 q1dT51).2.2.2.1, .i (x1.getD n2 q1dT51).2.2.2.2.1, .str (x1.getD n2 q1dT51).2.2.2.2.2.1, .str (x1.getD n2 q1dT51).2.2.2.2.2.2, .opq, .opq, .opq, .opq, .opq, .opq, .opq, .opq, .opq, .opq, .opq, .opq, .opq, .opq, .opq, .opq, .opq, .opq, .opq, .opq, .opq]], [], [], [], .tup [.i r6.1, .bool r6.2], [], [], []⟩)] ⟨94, [(0, q1aT51 x1), (2, .ptr 2 0), (4, .ptr 4 0), (6, .ptr 6 0), (7, .i r6.1), (8, .bool r6.2), (15, q1aT51 x1), (16, .i (lZ x1)), (17, .i (n2 : Int))], [(2, .cells 60 (f22z0)), (4, .cells 60 (f22z4 i3 i4 i5)), (6, .cells 51 [.i (x1.getD n2 q1dT51).1, .i (x1.getD n2 q1dT51).2.1, .i (x1.getD n2 q1dT51).2.2.1, .i (x1.getD n2 q1dT51).2.2.2.1, .i (x1.getD n2 q1dT51).2.2.2.2.1, .str (x1.getD n2 q1dT51).2.2.2.2.2.1, .str (x1.getD n2 q1dT51).2.2.2.2.2.2, .opq, .opq, .opq, .opq, .opq, .opq, .opq, .opq, .opq, .opq, .opq, .opq, .opq, .opq, .opq, .opq, .opq, .opq, .opq, .opq, .opq])], [], 0⟩ (an1 (cpT (f50_ok _ _ _ _ _ _ _ _ hr6))) ?_
    refine tN ?_
    refine AWp.seq ?_
    refine q1rq [] [] ⟨94, [(0, q1aT51 x1), (2, .ptr 2 0), (4, .ptr 4 0), (6, .ptr 6 0), (7, .i r6.1), (15, q1aT51 x1), (16, .i (lZ x1)), (17, .i (n2 : Int)), (27, .bool (!r6.2))], [(2, .cells 60 (f22z0)), (4, .cells 60 (f22z4 i3 i4 i5)), (6, .cells 51 [.i (x1.getD n2 q1dT51).1, .i (x1.getD n2 q1dT51).2.1, .i (x1.getD n2 q1dT51).2.2.1, .i (x1.getD n2 q1dT51).2.2.2.1, .i (x1.getD n2 q1dT51).2.2.2.2.1, .str (x1.getD n2 q1dT51).2.2.2.2.2.1, .str (x1.getD n2 q1dT51).2.2.2.2.2.2, .opq, .opq, .opq, .opq, .opq, .opq, .opq, .opq, .opq, .opq, .opq, .opq, .opq, .opq, .opq, .opq, .opq, .opq, .opq, .opq, .opq])], [], 0⟩ trivial ?_
    refine AWp.cond (b := (!r6.2)) (by kernel_rfl) (fun hc2 => ?_) (fun hc2 => ?_)
    ·
     replace h := ite_tb hc2 h
     refine AWp.exit ?_
     refine tE ?_
     refine kS ?_
     exact jN (i3, i4, i5) (Le.mk rfl rfl ⟨.refl _, .refl _, .refl _, .refl _, .refl _, .refl _, trivial⟩ ⟨⟨_, rfl, .refl _⟩, ⟨_, rfl, .refl _⟩, trivial⟩) h
    ·
     replace h := ite_fb hc2 h
     refine AWp.skip ?_
     refine tN ?_
     refine q1rq [] [] ⟨94, [(0, q1aT51 x1), (2, .ptr 2 0), (4, .ptr 4 0), (6, .ptr 6 0), (7, .i r6.1), (15, q1aT51 x1), (16, .i (lZ x1)), (17, .i (n2 : Int)), (28, q1aT51 x1), (29, .i (lZ x1)), (30, .i (0 : Int))], [(2, .cells 60 (f22z0)), (4, .cells 60 (f22z4 i3 i4 i5)), (6, .cells 51 [.i (x1.getD n2 q1dT51).1, .i (x1.getD n2 q1dT51).2.1, .i (x1.getD n2 q1dT51).2.2.1, .i (x1.getD n2 q1dT51).2.2.2.1, .i (x1.getD n2 q1dT51).2.2.2.2.1, .str (x1.getD n2 q1dT51).2.2.2.2.2.1, .str (x1.getD n2 q1dT51).2.2.2.2.2.2, .opq, .opq, .opq, .opq, .opq, .opq, .opq, .opq, .opq, .opq, .opq, .opq, .opq, .opq, .opq, .opq, .opq, .opq, .opq, .opq, .opq])], [], 0⟩ trivial ?_
     refine AWp.block ?_
     refine AWp.loopL (α := Nat × (Nat × Int × Int × Int)) (fun x => match x with | (_, n11, i12, i13, i14) => ⟨94, [(0, q1aT51 x1), (2, .ptr 2 0), (4, .ptr 4 0), (6, .ptr 6 0), (7, .i r6.1), (15, q1aT51 x1), (16, .i (lZ x1)), (17, .i (n2 : Int)), (28, q1aT51 x1), (29, .i (lZ x1)), (30, .i (n11 : Int))], [(2, .cells 60 (f22z0)), (4, .cells 60 (f22z2 i12 i13 i14)), (6, .cells 51 [.i (x1.getD n2 q1dT51).1, .i (x1.getD n2 q1dT51).2.1, .i (x1.getD n2 q1dT51).2.2.1, .i (x1.getD n2 q1dT51).2.2.2.1, .i (x1.getD n2 q1dT51).2.2.2.2.1, .str (x1.getD n2 q1dT51).2.2.2.2.2.1, .str (x1.getD n2 q1dT51).2.2.2.2.2.2, .opq, .opq, .opq, .opq, .opq, .opq, .opq, .opq, .opq, .opq, .opq, .opq, .opq, .opq, .opq, .opq, .opq, .opq, .opq, .opq, .opq])], [], 0⟩) (fun x => f22_L1 x1 n2 K2 r6 x.1 x.2 = some r) (fun x => x.1) (FUEL, 0, i3, i4, i5) (Le.mk (s' := ⟨94, [(0, q1aT51 x1), (2, .ptr 2 0), (4, .ptr 4 0), (6, .ptr 6 0), (7, .i r6.1), (15, q1aT51 x1), (16, .i (lZ x1)), (17, .i (n2 : Int)), (28, q1aT51 x1), (29, .i (lZ x1)), (30, .i (0 : Int))], [(2, .cells 60 (f22z0)), (4, .cells 60 (f22z4 i3 i4 i5)), (6, .cells 51 [.i (x1.getD n2 q1dT51).1, .i (x1.getD n2 q1dT51).2.1, .i (x1.getD n2 q1dT51).2.2.1, .i (x1.getD n2 q1dT51).2.2.2.1, .i (x1.getD n2 q1dT51).2.2.2.2.1, .str (x1.getD n2 q1dT51).2.2.2.2.2.1, .str (x1.getD n2 q1dT51).2.2.2.2.2.2, .opq, .opq, .opq, .opq, .opq, .opq, .opq, .opq, .opq, .opq, .opq, .opq, .opq, .opq, .opq, .opq, .opq, .opq, .opq, .opq, .opq])], [], 0⟩) rfl rfl ⟨.refl _, .refl _, .refl _, .refl _, .refl _, .refl _, .refl _, .refl _, .refl _, .refl _, .refl _, trivial⟩ ⟨⟨_, rfl, .refl _⟩, ⟨_, rfl, .refl _⟩, ⟨_, rfl, .refl _⟩, trivial⟩) h ?_
     rintro ⟨k1, n11, i12, i13, i14⟩ h
     cases k1 with
     | zero => exact nomatch (show (none : Option (Int × Int × Int × Int)) = some r from h)
     | succ k1 =>
     obtain ⟨C1, hC1⟩ : ∃ C, C = f22_L1 x1 n2 K2 r6 k1 := ⟨_, rfl⟩
     replace h := (f22_L1.eq_2 ..).symm.trans h
     try rw [← hC1] at h
     refine q1rq [] [] ⟨94, [(0, q1aT51 x1), (2, .ptr 2 0), (4, .ptr 4 0), (6, .ptr 6 0), (7, .i r6.1), (15, q1aT51 x1), (16, .i (lZ x1)), (17, .i (n2 : Int)), (28, q1aT51 x1), (29, .i (lZ x1)), (30, .i (n11 : Int)), (31, .bool (decide ((n11 : Int) < (lZ x1))))], [(2, .cells 60 (f22z0)), (4, .cells 60 (f22z2 i12 i13 i14)), (6, .cells 51 [.i (x1.getD n2 q1dT51).1, .i (x1.getD n2 q1dT51).2.1, .i (x1.getD n2 q1dT51).2.2.1, .i (x1.getD n2 q1dT51).2.2.2.1, .i (x1.getD n2 q1dT51).2.2.2.2.1, .str (x1.getD n2 q1dT51).2.2.2.2.2.1, .str (x1.getD n2 q1dT51).2.2.2.2.2.2, .opq, .opq, .opq, .opq, .opq, .opq, .opq, .opq, .opq, .opq, .opq, .opq, .opq, .opq, .opq, .opq, .opq, .opq, .opq, .opq, .opq])], [], 0⟩ trivial ?_
     refine AWp.seq ?_
     refine AWp.cond (b := (decide ((n11 : Int) < (lZ x1)))) (by kernel_rfl) (fun hc3 => ?_) (fun hc3 => ?_)
     ·
      replace h := ite_tb hc3 h
      refine AWp.skip ?_
      refine tN ?_
      obtain ⟨K3, hK3, h⟩ := jn_some h
      refine AWp.join (α := Int × Int × Int) (fun (x : Tq6) => match x with | (i17, i18, i19) => ⟨94, [(0, q1aT51 x1), (2, .ptr 2 0), (4, .ptr 4 0), (6, .ptr 6 0), (7, .i r6.1), (15, q1aT51 x1), (16, .i (lZ x1)), (17, .i (n2 : Int)), (28, q1aT51 x1), (29, .i (lZ x1)), (30, .i (n11 : Int))], [(2, .cells 60 (f22z0)), (4, .cells 60 [.i i17, .i i18, .i i19]), (6, .cells 51 [.i (x1.getD n2 q1dT51).1, .i (x1.getD n2 q1dT51).2.1, .i (x1.getD n2 q1dT51).2.2.1, .i (x1.getD n2 q1dT51).2.2.2.1, .i (x1.getD n2 q1dT51).2.2.2.2.1, .str (x1.getD n2 q1dT51).2.2.2.2.2.1, .str (x1.getD n2 q1dT51).2.2.2.2.2.2, .opq, .opq, .opq, .opq, .opq, .opq, .opq, .opq, .opq, .opq, .opq, .opq, .opq, .opq, .opq, .opq, .opq, .opq, .opq, .opq, .opq])], [], 0⟩) (fun x => K3 x = some r) ?_ ?_
      ·
       refine AWp.block ?_
       refine AWp.seq ?_
       obtain ⟨ob1p, h⟩ := chk_some h
       have ob1 : 0 ≤ (n11 : Int) ∧ (n11 : Int) < (((x1).length : Nat) : Int) := ⟨by omega, ob1p⟩
       refine q1rr [] [] ⟨94, [(0, q1aT51 x1), (2, .ptr 2 0), (4, .ptr 4 0), (6, .ptr 6 0), (7, .i r6.1), (10, .ptr 10 0), (15, q1aT51 x1), (16, .i (lZ x1)), (17, .i (n2 : Int)), (28, q1aT51 x1), (29, .i (lZ x1)), (30, .i (n11 : Int))], [(2, .cells 60 (f22z0)), (4, .cells 60 (f22z2 i12 i13 i14)), (6, .cells 51 [.i (x1.getD n2 q1dT51).1, .i (x1.getD n2 q1dT51).2.1, .i (x1.getD n2 q1dT51).2.2.1, .i (x1.getD n2 q1dT51).2.2.2.1, .i (x1.getD n2 q1dT51).2.2.2.2.1, .str (x1.getD n2 q1dT51).2.2.2.2.2.1, .str (x1.getD n2 q1dT51).2.2.2.2.2.2, .opq, .opq, .opq, .opq, .opq, .opq, .opq, .opq, .opq, .opq, .opq, .opq, .opq, .opq, .opq, .opq, .opq, .opq, .opq, .opq, .opq]), (10, .cells 51 [.i (x1.getD n11 q1dT51).1, .i (x1.getD n11 q1dT51).2.1, .i (x1.getD n11 q1dT51).2.2.1, .i (x1.getD n11 q1dT51).2.2.2.1, .i (x1.getD n11 q1dT51).2.2.2.2.1, .str (x1.getD n11 q1dT51).2.2.2.2.2.1, .str (x1.getD n11 q1dT51).2.2.2.2.2.2, .opq, .opq, .opq, .opq, .opq, .opq, .opq, .opq, .opq, .opq, .opq, .opq, .opq, .opq, .opq, .opq, .opq, .opq, .opq, .opq, .opq])], [], 0⟩ (an2 ob1 trivial) ?_
       refine tN ?_
       refine AWp.seq ?_
       obtain ⟨r15, hr15, h⟩ := bind_ok h
       refine q1rr [] [(1, ⟨[.agg [.i (x1.getD n11 q1dT51).1, .i (x1.getD n11 q1dT51).2.1, .i (x1.getD n11 q1dT51).2.2.1, .i (x1.getD n11 q1dT51).2.2.2.1, .i (x1.getD n11 q1dT51).2.2.2.2.1, .str (x1.getD n11 q1dT51).2.2.2.2.2.1, .str (x1.getD n11 q1dT51).2.2.2.2.2.2, .opq, .opq, .opq, .opq, .opq, .opq, .opq, .opq, .opq, .opq, .opq, .opq, .opq, .opq, .opq, .opq, .opq, .opq, .opq, .opq, .opq]], [], [], [], .tup [.i r15.1, .bool r15.2], [], [], []⟩)] ⟨94, [(0, q1aT51 x1), (2, .ptr 2 0), (4, .ptr 4 0), (6, .ptr 6 0), (7, .i r6.1), (10, .ptr 10 0), (11, .i r15.1), (12, .bool r15.2), (15, q1aT51 x1), (16, .i (lZ x1)), (17, .i (n2 : Int)), (28, q1aT51 x1), (29, .i (lZ x1)), (30, .i (n11 : Int))], [(2, .cells 60 (f22z0)), (4, .cells 60 (f22z2 i12 i13 i14)), (6, .cells 51 [.i (x1.getD n2 q1dT51).1, .i (x1.getD n2 q1dT51).2.1, .i (x1.getD n2 q1dT51).2.2.1, .i (x1.getD n2 q1dT51).2.2.2.1, .i (x1.getD n2 q1dT51).2.2.2.2.1, .str (x1.getD n2 q1dT51).2.2.2.2.2.1, .str (x1.getD n2 q1dT51).2.2.2.2.2.2, .opq, .opq, .opq, .opq, .opq, .opq, .opq, .opq, .opq, .opq, .opq, .opq, .opq, .opq, .opq, .opq, .opq, .opq, .opq, .opq, .opq]), (10, .cells 51 [.i (x1.getD n11 q1dT51).1, .i (x1.getD n11 q1dT51).2.1, .i (x1.getD n11 q1dT51).2.2.1, .i (x1.getD n11 q1dT51).2.2.2.1, .i (x1.getD n11 q1dT51).2.2.2.2.1, .str (x1.getD n11 q1dT51).2.2.2.2.2.1, .str (x1.getD n11 q1dT51).2.2.2.2.2.2, .opq, .opq, .opq, .opq, .opq, .opq, .opq, .opq, .opq, .opq, .opq, .opq, .opq, .opq, .opq, .opq, .opq, .opq, .opq, .opq, .opq])], [], 0⟩ (an1 (cpT (f50_ok _ _ _ _ _ _ _ _ hr15))) ?_
       refine tN ?_
       refine AWp.seq ?_
       refine AWp.seq ?_
       have ob2 := idA (((!r15.2) == false) = true)
       have ob3 := idA (((!r15.2) == false) = true)
       have ob4 := bqA (!r15.2) false
       have ob5 := idA (((f22z1 r15 r6) == false) = true)
       have ob6 := idA (((f22z1 r15 r6) == false) = true)
       have ob7 := idA (((f22z1 r15 r6) == false) = true)
       have ob8 := idA (((f22z1 r15 r6) == false) = true)
       have ob9 := bqA (f22z1 r15 r6) false
       have ob10 := idA ((((f22z1 r15 r6) || ((x1.getD n2 q1dT51).2.2.2.1 != (x1.getD n11 q1dT51).2.2.2.1)) == false) = true)
       have ob11 := idA ((((f22z1 r15 r6) || ((x1.getD n2 q1dT51).2.2.2.1 != (x1.getD n11 q1dT51).2.2.2.1)) == false) = true)
       have ob12 := idA ((((f22z1 r15 r6) || ((x1.getD n2 q1dT51).2.2.2.1 != (x1.getD n11 q1dT51).2.2.2.1)) == false) = true)
       have ob13 := idA ((((f22z1 r15 r6) || ((x1.getD n2 q1dT51).2.2.2.1 != (x1.getD n11 q1dT51).2.2.2.1)) == false) = true)
       have ob14 := bqA ((f22z1 r15 r6) || ((x1.getD n2 q1dT51).2.2.2.1 != (x1.getD n11 q1dT51).2.2.2.1)) false
       refine q1rr [] [] ⟨94, [(0, q1aT51 x1), (2, .ptr 2 0), (4, .ptr 4 0), (6, .ptr 6 0), (7, .i r6.1), (11, .i r15.1), (15, q1aT51 x1), (16, .i (lZ x1)), (17, .i (n2 : Int)), (28, q1aT51 x1), (29, .i (lZ x1)), (30, .i (n11 : Int)), (59, .bool (((f22z1 r15 r6) || ((x1.getD n2 q1dT51).2.2.2.1 != (x1.getD n11 q1dT51).2.2.2.1)) || (((x1.getD n2 q1dT51).2.2.2.2.2.1) == ((x1.getD n11 q1dT51).2.2.2.2.2.1))))], [(2, .cells 60 (f22z0)), (4, .cells 60 (f22z2 i12 i13 i14)), (6, .cells 51 [.i (x1.getD n2 q1dT51).1, .i (x1.getD n2 q1dT51).2.1, .i (x1.getD n2 q1dT51).2.2.1, .i (x1.getD n2 q1dT51).2.2.2.1, .i (x1.getD n2 q1dT51).2.2.2.2.1, .str (x1.getD n2 q1dT51).2.2.2.2.2.1, .str (x1.getD n2 q1dT51).2.2.2.2.2.2, .opq, .opq, .opq, .opq, .opq, .opq, .opq, .opq, .opq, .opq, .opq, .opq, .opq, .opq, .opq, .opq, .opq, .opq, .opq, .opq, .opq])], [], 0⟩ (ac6 (an2 ob2 ob3) ob4 (an1 ob5) (an1 ob6) (an2 ob7 ob8) ob9 (an4 (an1 ob10) (an1 ob11) (an2 ob12 ob13) ob14)) ?_
       refine tN ?_
       refine AWp.cond (b := (((f22z1 r15 r6) || ((x1.getD n2 q1dT51).2.2.2.1 != (x1.getD n11 q1dT51).2.2.2.1)) || (((x1.getD n2 q1dT51).2.2.2.2.2.1) == ((x1.getD n11 q1dT51).2.2.2.2.2.1)))) (by kernel_rfl) (fun hc4 => ?_) (fun hc4 => ?_)
       ·
        replace h := ite_tb hc4 h
        refine AWp.exit ?_
        refine tE ?_
        refine kS ?_
        exact jN (i12, i13, i14) (Le.mk rfl rfl ⟨.refl _, .refl _, .refl _, .refl _, .refl _, .refl _, .refl _, .refl _, .refl _, .refl _, .refl _, trivial⟩ ⟨⟨_, rfl, .refl _⟩, ⟨_, rfl, .refl _⟩, ⟨_, rfl, .refl _⟩, trivial⟩) h
       ·
        replace h := ite_fb hc4 h
        refine AWp.skip ?_
        refine tN ?_
        refine q1rq [] [] ⟨94, [(0, q1aT51 x1), (2, .ptr 2 0), (4, .ptr 4 0), (6, .ptr 6 0), (7, .i r6.1), (13, .ptr 13 0), (15, q1aT51 x1), (16, .i (lZ x1)), (17, .i (n2 : Int)), (28, q1aT51 x1), (29, .i (lZ x1)), (30, .i (n11 : Int))], [(2, .cells 60 (f22z0)), (4, .cells 60 (f22z2 i12 i13 i14)), (6, .cells 51 [.i (x1.getD n2 q1dT51).1, .i (x1.getD n2 q1dT51).2.1, .i (x1.getD n2 q1dT51).2.2.1, .i (x1.getD n2 q1dT51).2.2.2.1, .i (x1.getD n2 q1dT51).2.2.2.2.1, .str (x1.getD n2 q1dT51).2.2.2.2.2.1, .str (x1.getD n2 q1dT51).2.2.2.2.2.2, .opq, .opq, .opq, .opq, .opq, .opq, .opq, .opq, .opq, .opq, .opq, .opq, .opq, .opq, .opq, .opq, .opq, .opq, .opq, .opq, .opq]), (13, .cells 60 [.i (x1.getD n2 q1dT51).2.2.2.1, .i r6.1, .i r15.1])], [], 0⟩ (an1 trivial) ?_
        refine AWp.seq ?_
        by_cases hg13_3 : (decide (i13 < (0 : Int))) = true
        ·
         replace h := ite_t hg13_3 h
         have ob15 := idA (false = true)
         have ob16 := idA (false = true)
         have ob17 := idA (false = true)
         have ob18 := idA (false = true)
         have ob19 := idA (false = true)
         have ob20 := idA (false = true)
         have ob21 := idA (false = true)
         have ob22 := idA (false = true)
         have ob23 : true = true → true = false → false = true := by first | decide | omega | simp | (intro h; cases h)
         refine q1rr [] [(3, ⟨[], [], [], [], (.bool true), [], [0], []⟩), (18, ⟨[], [], [], [], .any, [], [], []⟩)] ⟨94, [(0, q1aT51 x1), (2, .ptr 2 0), (4, .ptr 4 0), (6, .ptr 6 0), (7, .i r6.1), (13, .ptr 13 0), (15, q1aT51 x1), (16, .i (lZ x1)), (17, .i (n2 : Int)), (28, q1aT51 x1), (29, .i (lZ x1)), (30, .i (n11 : Int)), (85, .bool true)], [(2, .cells 60 (f22z0)), (4, .cells 60 (f22z2 i12 i13 i14)), (6, .cells 51 [.i (x1.getD n2 q1dT51).1, .i (x1.getD n2 q1dT51).2.1, .i (x1.getD n2 q1dT51).2.2.1, .i (x1.getD n2 q1dT51).2.2.2.1, .i (x1.getD n2 q1dT51).2.2.2.2.1, .str (x1.getD n2 q1dT51).2.2.2.2.2.1, .str (x1.getD n2 q1dT51).2.2.2.2.2.2, .opq, .opq, .opq, .opq, .opq, .opq, .opq, .opq, .opq, .opq, .opq, .opq, .opq, .opq, .opq, .opq, .opq, .opq, .opq, .opq, .opq]), (13, .cells 60 [.i (x1.getD n2 q1dT51).2.2.2.1, .i r6.1, .i r15.1])], [], 0⟩ (ac6 (show ((.bool (decide (i13 < (0 : Int)))) : V) = (.bool true) from (congrArg (fun x => ((.bool x) : V)) hg13_3)) (an1 ob15) (an1 ob16) (an1 ob17) (an1 ob18) (an1 ob19) (an3 (an1 ob20) (And.intro (show (callP Tryz.prog false 51 [] [] [] [] [] [.bool false, .bool false] [] (.any) []) from ⟨nofun, nofun, .inl rfl⟩) (an2 ob21 ob22)) ob23)) ?_
         refine tN ?_
         refine AWp.cond (b := true) (by kernel_rfl) (fun hc => ?_) (fun hc => ?_)
         ·
          clear hc
          refine q1rr [] [] ⟨94, [(0, q1aT51 x1), (2, .ptr 2 0), (4, .ptr 4 0), (6, .ptr 6 0), (7, .i r6.1), (15, q1aT51 x1), (16, .i (lZ x1)), (17, .i (n2 : Int)), (28, q1aT51 x1), (29, .i (lZ x1)), (30, .i (n11 : Int))], [(2, .cells 60 (f22z0)), (4, .cells 60 [.i (x1.getD n2 q1dT51).2.2.2.1, .i r6.1, .i r15.1]), (6, .cells 51 [.i (x1.getD n2 q1dT51).1, .i (x1.getD n2 q1dT51).2.1, .i (x1.getD n2 q1dT51).2.2.1, .i (x1.getD n2 q1dT51).2.2.2.1, .i (x1.getD n2 q1dT51).2.2.2.2.1, .str (x1.getD n2 q1dT51).2.2.2.2.2.1, .str (x1.getD n2 q1dT51).2.2.2.2.2.2, .opq, .opq, .opq, .opq, .opq, .opq, .opq, .opq, .opq, .opq, .opq, .opq, .opq, .opq, .opq, .opq, .opq, .opq, .opq, .opq, .opq])], [], 0⟩ (an1 trivial) ?_
          refine kN ?_
          have eq29 : (x1.getD n2 q1dT51).2.2.2.1 = ((x1.getD n2 q1dT51).2.2.2.1) := by first | omega | (simp only [List.length_append, List.length_cons, List.length_nil, List.length_take, List.length_drop] at *; omega) | (simp; done) | (simp_all; done) | (simp_all; omega) | rfl
          exact jN ((x1.getD n2 q1dT51).2.2.2.1, r6.1, r15.1) (Le.mk rfl rfl ⟨.refl _, .refl _, .refl _, .refl _, .refl _, .refl _, .refl _, .refl _, .refl _, .refl _, .refl _, trivial⟩ ⟨⟨_, rfl, .refl _⟩, ⟨_, rfl, (.cellsL ⟨(.int eq29), .refl _, .refl _, trivial⟩)⟩, ⟨_, rfl, .refl _⟩, trivial⟩) h
         ·
          cases hc
        ·
         replace h := ite_f hg13_3 h
         obtain ⟨r20, hr20, h⟩ := bind_ok h
         have ob15 := idA (true = true)
         have ob16 := idA (true = true)
         have ob17 := idA (true = true)
         have ob18 := idA (true = true)
         have ob19 := idA (true = true)
         have ob20 := idA (true = true)
         have ob21 := idA (true = true)
         have ob22 := idA (true = true)
         have ob23 := idA (true = true)
         have ob24 := idA (true = true)
         have ob25 := idA (true = true)
         have ob26 := idA (true = true)
         have ob27 := idA (true = true)
         have ob28 : true = true → false = false → true = true := by first | decide | omega | simp | (intro h; cases h)
         refine q1rr [] [(3, ⟨[], [], [], [], (.bool false), [], [0], []⟩), (18, ⟨[q1aI [(x1.getD n2 q1dT51).2.2.2.1, r6.1, r15.1], q1aI [i12, i13, i14]], [], [], [], .i r20, [], [75, 82], []⟩)] ⟨94, [(0, q1aT51 x1), (2, .ptr 2 0), (4, .ptr 4 0), (6, .ptr 6 0), (7, .i r6.1), (13, .ptr 13 0), (15, q1aT51 x1), (16, .i (lZ x1)), (17, .i (n2 : Int)), (28, q1aT51 x1), (29, .i (lZ x1)), (30, .i (n11 : Int)), (85, .bool (decide (r20 < (0 : Int))))], [(2, .cells 60 (f22z0)), (4, .cells 60 (f22z2 i12 i13 i14)), (6, .cells 51 [.i (x1.getD n2 q1dT51).1, .i (x1.getD n2 q1dT51).2.1, .i (x1.getD n2 q1dT51).2.2.1, .i (x1.getD n2 q1dT51).2.2.2.1, .i (x1.getD n2 q1dT51).2.2.2.2.1, .str (x1.getD n2 q1dT51).2.2.2.2.2.1, .str (x1.getD n2 q1dT51).2.2.2.2.2.2, .opq, .opq, .opq, .opq, .opq, .opq, .opq, .opq, .opq, .opq, .opq, .opq, .opq, .opq, .opq, .opq, .opq, .opq, .opq, .opq, .opq]), (13, .cells 60 [.i (x1.getD n2 q1dT51).2.2.2.1, .i r6.1, .i r15.1])], [], 0⟩ (ac6 (show ((.bool (decide (i13 < (0 : Int)))) : V) = (.bool false) from (congrArg (fun x => ((.bool x) : V)) (Bool.eq_false_iff.2 hg13_3))) (an1 ob15) (an1 ob16) (an1 ob17) (an3 ob18 ob19 ob20) (an1 ob21) (an6 (an1 ob22) (an1 ob23) (an3 ob24 ob25 ob26) (cpL (c := true) [(75, .rows 3 1 3 (lstF 1 [.i (x1.getD n2 q1dT51).2.2.2.1, .i r6.1, .i r15.1])), (82, .rows 3 1 3 (lstF 1 (f22z2 i12 i13 i14)))] [75, 82] [.own 75, .own 82] (fun _ => (f51_ok _ _ _ hr20)) (fun _ => ⟨(VLe.of (RL.lst (enc := eI) [(x1.getD n2 q1dT51).2.2.2.1, r6.1, r15.1] rfl rfl (fun _ => rfl))), (VLe.of (RL.lst (enc := eI) [i12, i13, i14] rfl rfl (fun _ => rfl))), trivial⟩) (.inr ⟨rfl, trivial⟩)) (an1 ob27) ob28)) ?_
         refine tN ?_
         refine AWp.cond (b := (decide (r20 < (0 : Int)))) (by kernel_rfl) (fun hc6 => ?_) (fun hc6 => ?_)
         ·
          replace h := ite_tb hc6 h
          refine q1rr [] [] ⟨94, [(0, q1aT51 x1), (2, .ptr 2 0), (4, .ptr 4 0), (6, .ptr 6 0), (7, .i r6.1), (15, q1aT51 x1), (16, .i (lZ x1)), (17, .i (n2 : Int)), (28, q1aT51 x1), (29, .i (lZ x1)), (30, .i (n11 : Int))], [(2, .cells 60 (f22z0)), (4, .cells 60 [.i (x1.getD n2 q1dT51).2.2.2.1, .i r6.1, .i r15.1]), (6, .cells 51 [.i (x1.getD n2 q1dT51).1, .i (x1.getD n2 q1dT51).2.1, .i (x1.getD n2 q1dT51).2.2.1, .i (x1.getD n2 q1dT51).2.2.2.1, .i (x1.getD n2 q1dT51).2.2.2.2.1, .str (x1.getD n2 q1dT51).2.2.2.2.2.1, .str (x1.getD n2 q1dT51).2.2.2.2.2.2, .opq, .opq, .opq, .opq, .opq, .opq, .opq, .opq, .opq, .opq, .opq, .opq, .opq, .opq, .opq, .opq, .opq, .opq, .opq, .opq, .opq])], [], 0⟩ (an1 trivial) ?_
          refine kN ?_
          have eq30 : (x1.getD n2 q1dT51).2.2.2.1 = ((x1.getD n2 q1dT51).2.2.2.1) := by first | omega | (simp only [List.length_append, List.length_cons, List.length_nil, List.length_take, List.length_drop] at *; omega) | (simp; done) | (simp_all; done) | (simp_all; omega) | rfl
          exact jN ((x1.getD n2 q1dT51).2.2.2.1, r6.1, r15.1) (Le.mk rfl rfl ⟨.refl _, .refl _, .refl _, .refl _, .refl _, .refl _, .refl _, .refl _, .refl _, .refl _, .refl _, trivial⟩ ⟨⟨_, rfl, .refl _⟩, ⟨_, rfl, (.cellsL ⟨(.int eq30), .refl _, .refl _, trivial⟩)⟩, ⟨_, rfl, .refl _⟩, trivial⟩) h
         ·
          replace h := ite_fb hc6 h
          refine AWp.skip ?_
          refine kN ?_
          exact jN (i12, i13, i14) (Le.mk rfl rfl ⟨.refl _, .refl _, .refl _, .refl _, .refl _, .refl _, .refl _, .refl _, .refl _, .refl _, .refl _, trivial⟩ ⟨⟨_, rfl, .refl _⟩, ⟨_, rfl, .refl _⟩, ⟨_, rfl, .refl _⟩, trivial⟩) h
      ·
       rintro ⟨i17, i18, i19⟩ h
       replace h := (congrFun hK3 _).symm.trans h
       obtain ⟨ob31p, h⟩ := chk_some h
       have ob31 : -9223372036854775808 ≤ ((n11 : Int) + (1 : Int)) ∧ ((n11 : Int) + (1 : Int)) ≤ 9223372036854775807 := ⟨by omega, ob31p⟩
       refine q1rr [] [] ⟨94, [(0, q1aT51 x1), (2, .ptr 2 0), (4, .ptr 4 0), (6, .ptr 6 0), (7, .i r6.1), (15, q1aT51 x1), (16, .i (lZ x1)), (17, .i (n2 : Int)), (28, q1aT51 x1), (29, .i (lZ x1)), (30, .i (((n11 + 1) : Nat) : Int))], [(2, .cells 60 (f22z0)), (4, .cells 60 [.i i17, .i i18, .i i19]), (6, .cells 51 [.i (x1.getD n2 q1dT51).1, .i (x1.getD n2 q1dT51).2.1, .i (x1.getD n2 q1dT51).2.2.1, .i (x1.getD n2 q1dT51).2.2.2.1, .i (x1.getD n2 q1dT51).2.2.2.2.1, .str (x1.getD n2 q1dT51).2.2.2.2.2.1, .str (x1.getD n2 q1dT51).2.2.2.2.2.2, .opq, .opq, .opq, .opq, .opq, .opq, .opq, .opq, .opq, .opq, .opq, .opq, .opq, .opq, .opq, .opq, .opq, .opq, .opq, .opq, .opq])], [], 0⟩ (an1 ob31) ?_
       rw [hC1] at h
       exact lN (_, (n11 + 1), i17, i18, i19) (Le.mk rfl rfl ⟨.refl _, .refl _, .refl _, .refl _, .refl _, .refl _, .refl _, .refl _, .refl _, .refl _, .refl _, trivial⟩ ⟨⟨_, rfl, .refl _⟩, ⟨_, rfl, .refl _⟩, ⟨_, rfl, .refl _⟩, trivial⟩) h (Nat.lt_succ_self _)
     ·
      replace h := ite_fb hc3 h
      refine AWp.exit ?_
      refine tE ?_
      refine tE ?_
      refine kS ?_
      refine kN ?_
      exact jN (i12, i13, i14) (Le.mk rfl rfl ⟨.refl _, .refl _, .refl _, .refl _, .refl _, .refl _, trivial⟩ ⟨⟨_, rfl, .refl _⟩, ⟨_, rfl, .refl _⟩, trivial⟩) h
   ·
    rintro ⟨i7, i9, i10⟩ h
    replace h := (congrFun hK2 _).symm.trans h
    obtain ⟨ob32p, h⟩ := chk_some h
    have ob32 : -9223372036854775808 ≤ ((n2 : Int) + (1 : Int)) ∧ ((n2 : Int) + (1 : Int)) ≤ 9223372036854775807 := ⟨by omega, ob32p⟩
    refine q1rr [] [] ⟨94, [(0, q1aT51 x1), (2, .ptr 2 0), (4, .ptr 4 0), (15, q1aT51 x1), (16, .i (lZ x1)), (17, .i (((n2 + 1) : Nat) : Int))], (f22z5 i7 i9 i10), [], 0⟩ (an1 ob32) ?_
    rw [hC0] at h
    exact lN (_, (n2 + 1), i7, i9, i10) (Le.mk rfl rfl ⟨.refl _, .refl _, .refl _, .refl _, .refl _, .refl _, trivial⟩ ⟨⟨_, rfl, .refl _⟩, ⟨_, rfl, .refl _⟩, trivial⟩) h (Nat.lt_succ_self _)
  ·
   replace h := ite_fb hc1 h
   refine AWp.exit ?_
   refine tE ?_
   refine tE ?_
   refine kS ?_
   exact jN (i3, i4, i5) (Le.mk rfl rfl ⟨.refl _, .refl _, trivial⟩ ⟨⟨_, rfl, .refl _⟩, ⟨_, rfl, .refl _⟩, trivial⟩) h
 ·
  rintro ⟨i21, i22, i23⟩ h
  replace h := (congrFun hK1 _).symm.trans h
  refine AWp.seq ?_
  refine q1rq [] [] ⟨94, [(2, .ptr 2 0), (4, .ptr 4 0), (91, .bool (decide (i22 < (0 : Int))))], [(2, .cells 60 (f22z0)), (4, .cells 60 [.i i21, .i i22, .i i23])], [], 0⟩ trivial ?_
  refine AWp.cond (b := (decide (i22 < (0 : Int)))) (by kernel_rfl) (fun hc7 => ?_) (fun hc7 => ?_)
  ·
   replace h := ite_tb hc7 h
   refine q1rq [] [] ⟨94, [(2, .ptr 2 0), (3, .i (13 : Int))], [(2, .cells 60 (f22z0))], [], 0⟩ (an1 trivial) ?_
   have hret := Option.some.inj h
   subst hret
   refine AWp.le (Le.mk (s' := ⟨94, [(2, .ptr 2 0), (3, .i (13 : Int))], [(2, .cells 60 (f22z0))], [], 0⟩) rfl rfl ⟨.refl _, .refl _, trivial⟩ ⟨⟨_, rfl, .refl _⟩, trivial⟩) ?_
   refine AWp.ret ?_
   refine tR ?_
   exact bR _ rfl ⟨rfl, rfl⟩ rfl
  ·
   replace h := ite_fb hc7 h
   refine AWp.skip ?_
   refine tN ?_
   refine q1rq [] [] ⟨94, [(2, .ptr 2 0), (3, .i (0 : Int))], [(2, .cells 60 [.i i21, .i i22, .i i23])], [], 0⟩ (an1 trivial) ?_
   have hret := Option.some.inj h
   subst hret
   refine AWp.le (Le.mk (s' := ⟨94, [(2, .ptr 2 0), (3, .i (0 : Int))], [(2, .cells 60 [.i i21, .i i22, .i i23])], [], 0⟩) rfl rfl ⟨.refl _, .refl _, trivial⟩ ⟨⟨_, rfl, .refl _⟩, trivial⟩) ?_
   refine AWp.ret ?_
   exact bR _ rfl ⟨rfl, rfl⟩ rfl
def f44  : Option ((List Tq4) × (List Tq3) × (List (Tq0 × List UInt8)) × (List Tq0) × (List (Tq0 × List UInt8)) × (List (Tq2 × Bool)) × (List (Tq0 × Bool))) :=
 some ([], [], [], [], [], [], [])
theorem f44_ok   (r : (List Tq4) × (List Tq3) × (List (Tq0 × List UInt8)) × (List Tq0) × (List (Tq0 × List UInt8)) × (List (Tq2 × Bool)) × (List (Tq0 × Bool))) (h : f44 = some r)  : Spec1 Tryz.prog 44 [] [] [] [] (.agg [.own 3000, .own 3001, .own 3002, .own 3003, .own 3004, .own 3005, .own 3006]) [(3000, bP (V.int .i64) 0 m108 [] r.1), (3001, bP (V.int .i64) 0 m109 false r.2.1), (3002, bP mk110E (default : Tq0) m110 [] r.2.2.1), (3003, bP (V.int .i64) 0 m111 0 r.2.2.2.1), (3004, bP mk110E (default : Tq0) m110 [] r.2.2.2.2.1), (3005, bP mk112E (default : Tq2) m112 false r.2.2.2.2.2.1), (3006, bP mk113E (default : Tq0) m113 false r.2.2.2.2.2.2)] := by
 unfold f44 at h
 refine Spec1.bodyD [0] 0 _ _ Tryz.func44 rfl Tryz.ntmps44 rfl rfl ?_
 refine q1rq [] [] ⟨9, [(0, .ptr 0 0)], [(0, .cells 115 [.lit (.map none), .lit (.map none), .lit (.map none), .lit (.map none), .lit (.map none), .lit (.map none), .lit (.map none)])], [], 0⟩ trivial ?_
 refine q1rq [] [(0, ⟨[], [], [], [(1, bP (V.int .i64) 0 m108 [] [])], .own 1, [1], [], []⟩), (1, ⟨[], [], [], [(2, bP (V.int .i64) 0 m109 false [])], .own 2, [2], [], []⟩), (2, ⟨[], [], [], [(3, bP mk110E q1dII m110 [] [])], .own 3, [3], [], []⟩), (3, ⟨[], [], [], [(4, bP (V.int .i64) 0 m111 0 [])], .own 4, [4], [], []⟩), (4, ⟨[], [], [], [(5, bP mk110E q1dII m110 [] [])], .own 5, [5], [], []⟩), (5, ⟨[], [], [], [(6, bP mk112E q1dIIS m112 false [])], .own 6, [6], [], []⟩), (6, ⟨[], [], [], [(7, bP mk113E q1dII m113 false [])], .own 7, [7], [], []⟩)] ⟨9, [(0, .ptr 0 0)], [(0, .cells 115 [.own 1, .own 2, .own 3, .own 4, .own 5, .own 6, .own 7]), (1, bP (V.int .i64) 0 m108 [] []), (2, bP (V.int .i64) 0 m109 false []), (3, bP mk110E q1dII m110 [] []), (4, bP (V.int .i64) 0 m111 0 []), (5, bP mk110E q1dII m110 [] []), (6, bP mk112E q1dIIS m112 false []), (7, bP mk113E q1dII m113 false [])], [], 0⟩ (ac6 (And.intro (makeP_spec (P := Tryz.prog) (V.int .i64) 0 m108 [] 108 1 108) (VLes.same [])) (And.intro (makeP_spec (P := Tryz.prog) (V.int .i64) 0 m109 false 109 2 109) (VLes.same [])) (And.intro (makeP_spec (P := Tryz.prog) mk110E q1dII m110 [] 110 3 110) (VLes.same [])) (And.intro (makeP_spec (P := Tryz.prog) (V.int .i64) 0 m111 0 111 4 111) (VLes.same [])) (And.intro (makeP_spec (P := Tryz.prog) mk110E q1dII m110 [] 110 5 110) (VLes.same [])) (And.intro (makeP_spec (P := Tryz.prog) mk112E q1dIIS m112 false 112 6 112) (VLes.same [])) (an2 (And.intro (makeP_spec (P := Tryz.prog) mk113E q1dII m113 false 113 7 113) (VLes.same [])) trivial)) ?_
 refine AWp.le (Le.trans (Le.ren (swapN 1 3000) (swapN_inv 1 3000) rfl) (Le.mk (s' := ⟨9, [(0, .ptr 0 0)], [(0, .cells 115 [.own 3000, .own 2, .own 3, .own 4, .own 5, .own 6, .own 7]), (3000, bP (V.int .i64) 0 m108 [] []), (2, bP (V.int .i64) 0 m109 false []), (3, bP mk110E q1dII m110 [] []), (4, bP (V.int .i64) 0 m111 0 []), (5, bP mk110E q1dII m110 [] []), (6, bP mk112E q1dIIS m112 false []), (7, bP mk113E q1dII m113 false [])], [], 0⟩) rfl rfl ⟨.refl _, trivial⟩ ⟨⟨_, rfl, .refl _⟩, ⟨_, rfl, .refl _⟩, ⟨_, rfl, .refl _⟩, ⟨_, rfl, .refl _⟩, ⟨_, rfl, .refl _⟩, ⟨_, rfl, .refl _⟩, ⟨_, rfl, .refl _⟩, ⟨_, rfl, .refl _⟩, trivial⟩)) ?_
 refine AWp.le (Le.trans (Le.ren (swapN 2 3001) (swapN_inv 2 3001) rfl) (Le.mk (s' := ⟨9, [(0, .ptr 0 0)], [(0, .cells 115 [.own 3000, .own 3001, .own 3, .own 4, .own 5, .own 6, .own 7]), (3000, bP (V.int .i64) 0 m108 [] []), (3001, bP (V.int .i64) 0 m109 false []), (3, bP mk110E q1dII m110 [] []), (4, bP (V.int .i64) 0 m111 0 []), (5, bP mk110E q1dII m110 [] []), (6, bP mk112E q1dIIS m112 false []), (7, bP mk113E q1dII m113 false [])], [], 0⟩) rfl rfl ⟨.refl _, trivial⟩ ⟨⟨_, rfl, .refl _⟩, ⟨_, rfl, .refl _⟩, ⟨_, rfl, .refl _⟩, ⟨_, rfl, .refl _⟩, ⟨_, rfl, .refl _⟩, ⟨_, rfl, .refl _⟩, ⟨_, rfl, .refl _⟩, ⟨_, rfl, .refl _⟩, trivial⟩)) ?_
 refine AWp.le (Le.trans (Le.ren (swapN 3 3002) (swapN_inv 3 3002) rfl) (Le.mk (s' := ⟨9, [(0, .ptr 0 0)], [(0, .cells 115 [.own 3000, .own 3001, .own 3002, .own 4, .own 5, .own 6, .own 7]), (3000, bP (V.int .i64) 0 m108 [] []), (3001, bP (V.int .i64) 0 m109 false []), (3002, bP mk110E q1dII m110 [] []), (4, bP (V.int .i64) 0 m111 0 []), (5, bP mk110E q1dII m110 [] []), (6, bP mk112E q1dIIS m112 false []), (7, bP mk113E q1dII m113 false [])], [], 0⟩) rfl rfl ⟨.refl _, trivial⟩ ⟨⟨_, rfl, .refl _⟩, ⟨_, rfl, .refl _⟩, ⟨_, rfl, .refl _⟩, ⟨_, rfl, .refl _⟩, ⟨_, rfl, .refl _⟩, ⟨_, rfl, .refl _⟩, ⟨_, rfl, .refl _⟩, ⟨_, rfl, .refl _⟩, trivial⟩)) ?_
 refine AWp.le (Le.trans (Le.ren (swapN 4 3003) (swapN_inv 4 3003) rfl) (Le.mk (s' := ⟨9, [(0, .ptr 0 0)], [(0, .cells 115 [.own 3000, .own 3001, .own 3002, .own 3003, .own 5, .own 6, .own 7]), (3000, bP (V.int .i64) 0 m108 [] []), (3001, bP (V.int .i64) 0 m109 false []), (3002, bP mk110E q1dII m110 [] []), (3003, bP (V.int .i64) 0 m111 0 []), (5, bP mk110E q1dII m110 [] []), (6, bP mk112E q1dIIS m112 false []), (7, bP mk113E q1dII m113 false [])], [], 0⟩) rfl rfl ⟨.refl _, trivial⟩ ⟨⟨_, rfl, .refl _⟩, ⟨_, rfl, .refl _⟩, ⟨_, rfl, .refl _⟩, ⟨_, rfl, .refl _⟩, ⟨_, rfl, .refl _⟩, ⟨_, rfl, .refl _⟩, ⟨_, rfl, .refl _⟩, ⟨_, rfl, .refl _⟩, trivial⟩)) ?_
 refine AWp.le (Le.trans (Le.ren (swapN 5 3004) (swapN_inv 5 3004) rfl) (Le.mk (s' := ⟨9, [(0, .ptr 0 0)], [(0, .cells 115 [.own 3000, .own 3001, .own 3002, .own 3003, .own 3004, .own 6, .own 7]), (3000, bP (V.int .i64) 0 m108 [] []), (3001, bP (V.int .i64) 0 m109 false []), (3002, bP mk110E q1dII m110 [] []), (3003, bP (V.int .i64) 0 m111 0 []), (3004, bP mk110E q1dII m110 [] []), (6, bP mk112E q1dIIS m112 false []), (7, bP mk113E q1dII m113 false [])], [], 0⟩) rfl rfl ⟨.refl _, trivial⟩ ⟨⟨_, rfl, .refl _⟩, ⟨_, rfl, .refl _⟩, ⟨_, rfl, .refl _⟩, ⟨_, rfl, .refl _⟩, ⟨_, rfl, .refl _⟩, ⟨_, rfl, .refl _⟩, ⟨_, rfl, .refl _⟩, ⟨_, rfl, .refl _⟩, trivial⟩)) ?_
 refine AWp.le (Le.trans (Le.ren (swapN 6 3005) (swapN_inv 6 3005) rfl) (Le.mk (s' := ⟨9, [(0, .ptr 0 0)], [(0, .cells 115 [.own 3000, .own 3001, .own 3002, .own 3003, .own 3004, .own 3005, .own 7]), (3000, bP (V.int .i64) 0 m108 [] []), (3001, bP (V.int .i64) 0 m109 false []), (3002, bP mk110E q1dII m110 [] []), (3003, bP (V.int .i64) 0 m111 0 []), (3004, bP mk110E q1dII m110 [] []), (3005, bP mk112E q1dIIS m112 false []), (7, bP mk113E q1dII m113 false [])], [], 0⟩) rfl rfl ⟨.refl _, trivial⟩ ⟨⟨_, rfl, .refl _⟩, ⟨_, rfl, .refl _⟩, ⟨_, rfl, .refl _⟩, ⟨_, rfl, .refl _⟩, ⟨_, rfl, .refl _⟩, ⟨_, rfl, .refl _⟩, ⟨_, rfl, .refl _⟩, ⟨_, rfl, .refl _⟩, trivial⟩)) ?_
 refine AWp.le (Le.trans (Le.ren (swapN 7 3006) (swapN_inv 7 3006) rfl) (Le.mk (s' := ⟨9, [(0, .ptr 0 0)], [(0, .cells 115 [.own 3000, .own 3001, .own 3002, .own 3003, .own 3004, .own 3005, .own 3006]), (3000, bP (V.int .i64) 0 m108 [] []), (3001, bP (V.int .i64) 0 m109 false []), (3002, bP mk110E q1dII m110 [] []), (3003, bP (V.int .i64) 0 m111 0 []), (3004, bP mk110E q1dII m110 [] []), (3005, bP mk112E q1dIIS m112 false []), (3006, bP mk113E q1dII m113 false [])], [], 0⟩) rfl rfl ⟨.refl _, trivial⟩ ⟨⟨_, rfl, .refl _⟩, ⟨_, rfl, .refl _⟩, ⟨_, rfl, .refl _⟩, ⟨_, rfl, .refl _⟩, ⟨_, rfl, .refl _⟩, ⟨_, rfl, .refl _⟩, ⟨_, rfl, .refl _⟩, ⟨_, rfl, .refl _⟩, trivial⟩)) ?_
 have hret := Option.some.inj h
 subst hret
 refine AWp.le (Le.mk (s' := ⟨9, [(0, .ptr 0 0)], [(3000, bP (V.int .i64) 0 m108 [] []), (3001, bP (V.int .i64) 0 m109 false []), (3002, bP mk110E q1dII m110 [] []), (3003, bP (V.int .i64) 0 m111 0 []), (3004, bP mk110E q1dII m110 [] []), (3005, bP mk112E q1dIIS m112 false []), (3006, bP mk113E q1dII m113 false []), (0, .cells 115 [.own 3000, .own 3001, .own 3002, .own 3003, .own 3004, .own 3005, .own 3006])], [], 0⟩) rfl rfl ⟨.refl _, trivial⟩ ⟨⟨_, rfl, .refl _⟩, ⟨_, rfl, .refl _⟩, ⟨_, rfl, .refl _⟩, ⟨_, rfl, .refl _⟩, ⟨_, rfl, .refl _⟩, ⟨_, rfl, .refl _⟩, ⟨_, rfl, .refl _⟩, ⟨_, rfl, .refl _⟩, trivial⟩) ?_
 refine AWp.ret ?_
 exact bR _ rfl ⟨rfl, rfl⟩ rfl
def f192 (x1 : Int) : Option Int :=
 chk (0 ≤ x1 ∧ x1 < ((cs0.length : Nat) : Int)) <|
 chk ((((cs0.getD ((x1).toNat) 0).toNat : Nat) : Int) ≤ 9223372036854775807) <|
 some (((cs0.getD ((x1).toNat) 0).toNat : Nat) : Int)
theorem f192_ok  (x1 : Int) (r : Int) (h : f192 x1 = some r)  : Spec1 Tryz.prog 192 [] [] [] [.int .u8 x1] (.int .i64 r) [] := by
 unfold f192 at h
 refine Spec1.body 0 _ _ Tryz.func192 rfl Tryz.ntmps192 rfl rfl ?_
 refine q1rq [] [] ⟨6, [(0, .int .u8 x1)], [], [], 0⟩ trivial ?_
 refine AWp.seq ?_
 obtain ⟨ob0, ob1p, h⟩ := ck2 h
 have ob1 : -9223372036854775808 ≤ (((cs0.getD ((x1).toNat) 0).toNat : Nat) : Int) ∧ (((cs0.getD ((x1).toNat) 0).toNat : Nat) : Int) ≤ 9223372036854775807 := ⟨by omega, ob1p⟩
 refine q1rr [] [] ⟨6, [(2, .i (((cs0.getD ((x1).toNat) 0).toNat : Nat) : Int))], [], [], 0⟩ (an2 ob0 ob1) ?_
 refine tN ?_
 have hret := Option.some.inj h
 subst hret
 refine AWp.le (Le.mk (s' := ⟨6, [(2, .i (((cs0.getD ((x1).toNat) 0).toNat : Nat) : Int))], [], [], 0⟩) rfl rfl ⟨.refl _, trivial⟩ trivial) ?_
 refine AWp.ret ?_
 exact bR _ rfl ⟨rfl, rfl⟩ rfl
def f156_L0 (x1 : List UInt8) (K1 : Unit → Option Tq6) : Nat → (Int × Nat) → Option Tq6
 | 0, _ => none
 | k + 1, (i2, n3) =>
  if (decide ((n3 : Int) < (min ((x1.length : Nat) : Int) (10 : Int)))) then (
  chk ((n3 : Int) < ((x1.length : Nat) : Int)) <|
  if (decide ((((x1.getD n3 0).toNat : Nat) : Int) ≥ (128 : Int))) then (
  chk (0 ≤ (bitsI .and .u8 (((x1.getD n3 0).toNat : Nat) : Int) (127 : Int)) ∧ (bitsI .and .u8 (((x1.getD n3 0).toNat : Nat) : Int) (127 : Int)) ≤ 18446744073709551615) <|
  chk (-9223372036854775808 ≤ ((7 : Int) * (n3 : Int)) ∧ ((7 : Int) * (n3 : Int)) ≤ 9223372036854775807) <|
  chk (((n3 : Int) + (1 : Int)) ≤ 9223372036854775807) <|
  (f156_L0 x1 K1 k) ((bitsI .or .u64 i2 (IntKind.wrap .u64 ((bitsI .and .u8 (((x1.getD n3 0).toNat : Nat) : Int) (127 : Int)) * 2 ^ (min (7 * n3) (IntKind.bits .u64))))), (n3 + 1))
  ) else (
  (f192 (((x1.getD n3 0).toNat : Nat) : Int)).bind fun (r4 : Int) =>
  chk (-9223372036854775808 ≤ ((7 : Int) * (n3 : Int)) ∧ ((7 : Int) * (n3 : Int)) ≤ 9223372036854775807) <|
  chk (-9223372036854775808 ≤ (r4 + (((7 * n3) : Nat) : Int)) ∧ (r4 + (((7 * n3) : Nat) : Int)) ≤ 9223372036854775807) <|
  if (decide ((r4 + (((7 * n3) : Nat) : Int)) > (64 : Int))) then (
  some ((0 : Int), (0 : Int), (7 : Int))
  ) else (
  if (((((x1.getD n3 0).toNat : Nat) : Int) == (0 : Int)) && (decide ((n3 : Int) > (0 : Int)))) then (
  some ((0 : Int), (0 : Int), (2 : Int))
  ) else (
  chk ((((x1.getD n3 0).toNat : Nat) : Int) ≤ 18446744073709551615) <|
  chk (-9223372036854775808 ≤ ((7 : Int) * (n3 : Int)) ∧ ((7 : Int) * (n3 : Int)) ≤ 9223372036854775807) <|
  chk ((7 * n3) ≤ IntKind.bits .u64 ∧ 0 ≤ ((((x1.getD n3 0).toNat : Nat) : Int) * 2 ^ (7 * n3)) ∧ ((((x1.getD n3 0).toNat : Nat) : Int) * 2 ^ (7 * n3)) ≤ 18446744073709551615) <|
  chk (((n3 : Int) + (1 : Int)) ≤ 9223372036854775807) <|
  some ((bitsI .or .u64 i2 ((((x1.getD n3 0).toNat : Nat) : Int) * 2 ^ (7 * n3))), (((n3 + 1) : Nat) : Int), (0 : Int))
  )
  )
  )
  ) else (
  K1 ()
  )
theorem f156_L0_e2 (x1 : List UInt8) (K1 : Unit → Option Tq6) (k : Nat) (i2 : Int) (n3 : Nat) : f156_L0 x1 K1 (k + 1) (i2, n3) =
  if (decide ((n3 : Int) < (min ((x1.length : Nat) : Int) (10 : Int)))) then (
  chk ((n3 : Int) < ((x1.length : Nat) : Int)) <|
  if (decide ((((x1.getD n3 0).toNat : Nat) : Int) ≥ (128 : Int))) then (
  chk (0 ≤ (bitsI .and .u8 (((x1.getD n3 0).toNat : Nat) : Int) (127 : Int)) ∧ (bitsI .and .u8 (((x1.getD n3 0).toNat : Nat) : Int) (127 : Int)) ≤ 18446744073709551615) <|
  chk (-9223372036854775808 ≤ ((7 : Int) * (n3 : Int)) ∧ ((7 : Int) * (n3 : Int)) ≤ 9223372036854775807) <|
  chk (((n3 : Int) + (1 : Int)) ≤ 9223372036854775807) <|
  (f156_L0 x1 K1 k) ((bitsI .or .u64 i2 (IntKind.wrap .u64 ((bitsI .and .u8 (((x1.getD n3 0).toNat : Nat) : Int) (127 : Int)) * 2 ^ (min (7 * n3) (IntKind.bits .u64))))), (n3 + 1))
  ) else (
  (f192 (((x1.getD n3 0).toNat : Nat) : Int)).bind fun (r4 : Int) =>
  chk (-9223372036854775808 ≤ ((7 : Int) * (n3 : Int)) ∧ ((7 : Int) * (n3 : Int)) ≤ 9223372036854775807) <|
  chk (-9223372036854775808 ≤ (r4 + (((7 * n3) : Nat) : Int)) ∧ (r4 + (((7 * n3) : Nat) : Int)) ≤ 9223372036854775807) <|
  if (decide ((r4 + (((7 * n3) : Nat) : Int)) > (64 : Int))) then (
  some ((0 : Int), (0 : Int), (7 : Int))
  ) else (
  if (((((x1.getD n3 0).toNat : Nat) : Int) == (0 : Int)) && (decide ((n3 : Int) > (0 : Int)))) then (
  some ((0 : Int), (0 : Int), (2 : Int))
  ) else (
  chk ((((x1.getD n3 0).toNat : Nat) : Int) ≤ 18446744073709551615) <|
  chk (-9223372036854775808 ≤ ((7 : Int) * (n3 : Int)) ∧ ((7 : Int) * (n3 : Int)) ≤ 9223372036854775807) <|
  chk ((7 * n3) ≤ IntKind.bits .u64 ∧ 0 ≤ ((((x1.getD n3 0).toNat : Nat) : Int) * 2 ^ (7 * n3)) ∧ ((((x1.getD n3 0).toNat : Nat) : Int) * 2 ^ (7 * n3)) ≤ 18446744073709551615) <|
  chk (((n3 : Int) + (1 : Int)) ≤ 9223372036854775807) <|
  some ((bitsI .or .u64 i2 ((((x1.getD n3 0).toNat : Nat) : Int) * 2 ^ (7 * n3))), (((n3 + 1) : Nat) : Int), (0 : Int))
  )
  )
  )
  ) else (
  K1 ()
  ) := rfl
abbrev f156z0 : List (Nat × V) := [(2, .int .u64 (0 : Int)), (3, .int .i64 (0 : Int)), (4, .int .i64 (7 : Int))]
def f156 (x1 : List UInt8) : Option Tq6 :=
 jn (fun (_ : Unit) =>
 if (decide (((x1.length : Nat) : Int) < (10 : Int))) then (
 some ((0 : Int), (0 : Int), (9 : Int))
 ) else (
 some ((0 : Int), (0 : Int), (7 : Int))
 )
 ) fun (K1 : Unit → Option Tq6) =>
 f156_L0 x1 K1 FUEL ((0 : Int), 0)
theorem f156_ok  (x1 : List UInt8) (r : Tq6) (h : f156 x1 = some r)  : Spec1 Tryz.prog 156 [] [] [] [.str x1] (.tup [.int .u64 r.1, .int .i64 r.2.1, .int .i64 r.2.2]) [] := by
 unfold f156 at h
 refine Spec1.body 0 _ _ Tryz.func156 rfl Tryz.ntmps156 rfl rfl ?_
 refine q1rq [25] [] ⟨52, [(0, .str x1)], [], [], 0⟩ trivial ?_
 refine q1rq [25] [] ⟨52, [(0, .str x1), (5, .int .u64 (0 : Int))], [], [], 0⟩ trivial ?_
 obtain ⟨K1, hK1, h⟩ := jn_some h
 refine AWp.join (α := Unit) (fun (x : Unit) => match x with | () => ⟨52, [(0, .str x1)], [], [], 0⟩) (fun x => K1 x = some r) ?_ ?_
 ·
  refine q1rq [25] [] ⟨52, [(0, .str x1), (5, .int .u64 (0 : Int)), (10, .i (min (lZ x1) (10 : Int))), (11, .i (0 : Int))], [], [], 0⟩ trivial ?_
  refine AWp.block ?_
  refine AWp.loopL (α := Nat × (Int × Nat)) (fun x => match x with | (_, i2, n3) => ⟨52, [(0, .str x1), (5, .int .u64 i2), (10, .i (min (lZ x1) (10 : Int))), (11, .i (n3 : Int))], [], [], 0⟩) (fun x => f156_L0 x1 K1 x.1 x.2 = some r) (fun x => x.1) (FUEL, (0 : Int), 0) (Le.mk (s' := ⟨52, [(0, .str x1), (5, .int .u64 (0 : Int)), (10, .i (min (lZ x1) (10 : Int))), (11, .i (0 : Int))], [], [], 0⟩) rfl rfl ⟨.refl _, .refl _, .refl _, .refl _, trivial⟩ trivial) h ?_
  rintro ⟨k0, i2, n3⟩ h
  cases k0 with
  | zero => exact nomatch (show (none : Option Tq6) = some r from h)
  | succ k0 =>
  obtain ⟨C0, hC0⟩ : ∃ C, C = f156_L0 x1 K1 k0 := ⟨_, rfl⟩
  replace h := (f156_L0_e2 ..).symm.trans h
  try rw [← hC0] at h
  refine q1rq [25] [] ⟨52, [(0, .str x1), (5, .int .u64 i2), (10, .i (min (lZ x1) (10 : Int))), (11, .i (n3 : Int)), (12, .bool (decide ((n3 : Int) < (min (lZ x1) (10 : Int)))))], [], [], 0⟩ trivial ?_
  refine AWp.seq ?_
  refine AWp.cond (b := (decide ((n3 : Int) < (min (lZ x1) (10 : Int))))) (by kernel_rfl) (fun hc1 => ?_) (fun hc1 => ?_)
  ·
   replace h := ite_tb hc1 h
   refine AWp.skip ?_
   refine tN ?_
   refine AWp.seq ?_
   refine AWp.block ?_
   refine q1rq [25] [] ⟨52, [(0, .str x1), (5, .int .u64 i2), (6, .i (n3 : Int)), (10, .i (min (lZ x1) (10 : Int))), (11, .i (n3 : Int))], [], [], 0⟩ trivial ?_
   refine AWp.seq ?_
   obtain ⟨ob0p, h⟩ := chk_some h
   have ob0 : 0 ≤ (n3 : Int) ∧ (n3 : Int) < ((x1.length : Nat) : Int) := ⟨by omega, ob0p⟩
   refine q1rr [25] [] ⟨52, [(0, .str x1), (5, .int .u64 i2), (6, .i (n3 : Int)), (7, .int .u8 (((x1.getD n3 0).toNat : Nat) : Int)), (10, .i (min (lZ x1) (10 : Int))), (11, .i (n3 : Int))], [], [], 0⟩ (an1 ob0) ?_
   refine tN ?_
   refine AWp.seq ?_
   refine q1rq [25] [] ⟨52, [(0, .str x1), (5, .int .u64 i2), (6, .i (n3 : Int)), (7, .int .u8 (((x1.getD n3 0).toNat : Nat) : Int)), (10, .i (min (lZ x1) (10 : Int))), (11, .i (n3 : Int)), (18, .bool (decide ((((x1.getD n3 0).toNat : Nat) : Int) ≥ (128 : Int))))], [], [], 0⟩ trivial ?_
   refine AWp.cond (b := (decide ((((x1.getD n3 0).toNat : Nat) : Int) ≥ (128 : Int)))) (by kernel_rfl) (fun hc2 => ?_) (fun hc2 => ?_)
   ·
    replace h := ite_tb hc2 h
    refine AWp.seq ?_
    obtain ⟨ob1, ob2, h⟩ := ck2 h
    have ob3 : 0 ≤ (((7 * n3) : Nat) : Int) := by omega
    refine q1rr [25] [] ⟨52, [(0, .str x1), (5, .int .u64 (bitsI .or .u64 i2 (IntKind.wrap .u64 ((bitsI .and .u8 (((x1.getD n3 0).toNat : Nat) : Int) (127 : Int)) * 2 ^ (min (7 * n3) (IntKind.bits .u64)))))), (10, .i (min (lZ x1) (10 : Int))), (11, .i (n3 : Int))], [], [], 0⟩ (an3 ob1 ob2 ob3) ?_
    refine tN ?_
    refine AWp.exit ?_
    refine tE ?_
    refine kS ?_
    refine tN ?_
    obtain ⟨ob4p, h⟩ := chk_some h
    have ob4 : -9223372036854775808 ≤ ((n3 : Int) + (1 : Int)) ∧ ((n3 : Int) + (1 : Int)) ≤ 9223372036854775807 := ⟨by omega, ob4p⟩
    refine q1rr [25] [] ⟨52, [(0, .str x1), (5, .int .u64 (bitsI .or .u64 i2 (IntKind.wrap .u64 ((bitsI .and .u8 (((x1.getD n3 0).toNat : Nat) : Int) (127 : Int)) * 2 ^ (min (7 * n3) (IntKind.bits .u64)))))), (10, .i (min (lZ x1) (10 : Int))), (11, .i (((n3 + 1) : Nat) : Int))], [], [], 0⟩ (an1 ob4) ?_
    rw [hC0] at h
    exact lN (_, (bitsI .or .u64 i2 (IntKind.wrap .u64 ((bitsI .and .u8 (((x1.getD n3 0).toNat : Nat) : Int) (127 : Int)) * 2 ^ (min (7 * n3) (IntKind.bits .u64))))), (n3 + 1)) (Le.mk rfl rfl ⟨.refl _, .refl _, .refl _, .refl _, trivial⟩ trivial) h (Nat.lt_succ_self _)
   ·
    replace h := ite_fb hc2 h
    refine AWp.skip ?_
    refine tN ?_
    refine AWp.seq ?_
    refine AWp.seq ?_
    obtain ⟨r4, hr4, h⟩ := bind_ok h
    obtain ⟨ob5, ob6, h⟩ := ck2 h
    refine q1rr [25] [(1, ⟨[.int .u8 (((x1.getD n3 0).toNat : Nat) : Int)], [], [], [], .i r4, [], [], []⟩)] ⟨52, [(5, .int .u64 i2), (6, .i (n3 : Int)), (7, .int .u8 (((x1.getD n3 0).toNat : Nat) : Int)), (32, .bool (decide ((r4 + (((7 * n3) : Nat) : Int)) > (64 : Int))))], [], [], 0⟩ (an3 (cpT (f192_ok _ _ hr4)) ob5 ob6) ?_
    refine tN ?_
    refine AWp.cond (b := (decide ((r4 + (((7 * n3) : Nat) : Int)) > (64 : Int)))) (by kernel_rfl) (fun hc3 => ?_) (fun hc3 => ?_)
    ·
     replace h := ite_tb hc3 h
     refine q1rq [25] [] ⟨52, (f156z0), [], [], 0⟩ trivial ?_
     have hret := Option.some.inj h
     subst hret
     refine AWp.le (Le.mk (s' := ⟨52, (f156z0), [], [], 0⟩) rfl rfl ⟨.refl _, .refl _, .refl _, trivial⟩ trivial) ?_
     refine AWp.ret ?_
     refine tR ?_
     refine kR ?_
     refine tR ?_
     refine tR ?_
     refine kR ?_
     refine joinQ_ret ?_
     exact bR _ rfl ⟨rfl, rfl⟩ rfl
    ·
     replace h := ite_fb hc3 h
     refine AWp.skip ?_
     refine tN ?_
     refine AWp.seq ?_
     refine AWp.seq ?_
     have ob7 := idA ((((((x1.getD n3 0).toNat : Nat) : Int) == (0 : Int)) == true) = true)
     have ob8 := bqA ((((x1.getD n3 0).toNat : Nat) : Int) == (0 : Int)) true
     refine q1rr [25] [] ⟨52, [(5, .int .u64 i2), (6, .i (n3 : Int)), (7, .int .u8 (((x1.getD n3 0).toNat : Nat) : Int)), (38, .bool (((((x1.getD n3 0).toNat : Nat) : Int) == (0 : Int)) && (decide ((n3 : Int) > (0 : Int)))))], [], [], 0⟩ (an2 (an1 ob7) ob8) ?_
     refine tN ?_
     refine AWp.cond (b := (((((x1.getD n3 0).toNat : Nat) : Int) == (0 : Int)) && (decide ((n3 : Int) > (0 : Int))))) (by kernel_rfl) (fun hc4 => ?_) (fun hc4 => ?_)
     ·
      replace h := ite_tb hc4 h
      refine q1rq [25] [] ⟨52, [(2, .int .u64 (0 : Int)), (3, .i (0 : Int)), (4, .i (2 : Int))], [], [], 0⟩ trivial ?_
      have hret := Option.some.inj h
      subst hret
      refine AWp.le (Le.mk (s' := ⟨52, [(2, .int .u64 (0 : Int)), (3, .i (0 : Int)), (4, .i (2 : Int))], [], [], 0⟩) rfl rfl ⟨.refl _, .refl _, .refl _, trivial⟩ trivial) ?_
      refine AWp.ret ?_
      refine tR ?_
      refine kR ?_
      refine tR ?_
      refine tR ?_
      refine kR ?_
      refine joinQ_ret ?_
      exact bR _ rfl ⟨rfl, rfl⟩ rfl
     ·
      replace h := ite_fb hc4 h
      refine AWp.skip ?_
      refine tN ?_
      refine AWp.seq ?_
      obtain ⟨ob9p, h⟩ := chk_some h
      have ob9 : 0 ≤ (((x1.getD n3 0).toNat : Nat) : Int) ∧ (((x1.getD n3 0).toNat : Nat) : Int) ≤ 18446744073709551615 := ⟨by omega, ob9p⟩
      obtain ⟨ob10, ob11p, h⟩ := ck2 h
      have ob11 : 0 ≤ (((7 * n3) : Nat) : Int) ∧ (7 * n3) ≤ IntKind.bits .u64 ∧ 0 ≤ ((((x1.getD n3 0).toNat : Nat) : Int) * 2 ^ (7 * n3)) ∧ ((((x1.getD n3 0).toNat : Nat) : Int) * 2 ^ (7 * n3)) ≤ 18446744073709551615 := ⟨by omega, ob11p.1, ob11p.2.1, ob11p.2.2⟩
      obtain ⟨ob12p, h⟩ := chk_some h
      have ob12 : -9223372036854775808 ≤ ((n3 : Int) + (1 : Int)) ∧ ((n3 : Int) + (1 : Int)) ≤ 9223372036854775807 := ⟨by omega, ob12p⟩
      refine q1rr [25] [] ⟨52, [(2, .int .u64 (bitsI .or .u64 i2 ((((x1.getD n3 0).toNat : Nat) : Int) * 2 ^ (7 * n3)))), (3, .i (((n3 + 1) : Nat) : Int)), (4, .i (0 : Int))], [], [], 0⟩ (an4 ob9 ob10 ob11 ob12) ?_
      refine tN ?_
      have hret := Option.some.inj h
      subst hret
      refine AWp.le (Le.mk (s' := ⟨52, [(2, .int .u64 (bitsI .or .u64 i2 ((((x1.getD n3 0).toNat : Nat) : Int) * 2 ^ (7 * n3)))), (3, .i (((n3 + 1) : Nat) : Int)), (4, .i (0 : Int))], [], [], 0⟩) rfl rfl ⟨.refl _, .refl _, .refl _, trivial⟩ trivial) ?_
      refine AWp.ret ?_
      refine kR ?_
      refine tR ?_
      refine tR ?_
      refine kR ?_
      refine joinQ_ret ?_
      exact bR _ rfl ⟨rfl, rfl⟩ rfl
  ·
   replace h := ite_fb hc1 h
   refine AWp.exit ?_
   refine tE ?_
   refine tE ?_
   refine kS ?_
   exact jN () (Le.mk rfl rfl ⟨.refl _, trivial⟩ trivial) h
 ·
  rintro ⟨⟩ h
  replace h := (congrFun hK1 _).symm.trans h
  refine AWp.seq ?_
  refine q1rq [25] [] ⟨52, [(51, .bool (decide ((lZ x1) < (10 : Int))))], [], [], 0⟩ trivial ?_
  refine AWp.cond (b := (decide ((lZ x1) < (10 : Int)))) (by kernel_rfl) (fun hc5 => ?_) (fun hc5 => ?_)
  ·
   replace h := ite_tb hc5 h
   refine q1rq [25] [] ⟨52, [(2, .int .u64 (0 : Int)), (3, .i (0 : Int)), (4, .i (9 : Int))], [], [], 0⟩ trivial ?_
   have hret := Option.some.inj h
   subst hret
   refine AWp.le (Le.mk (s' := ⟨52, [(2, .int .u64 (0 : Int)), (3, .i (0 : Int)), (4, .i (9 : Int))], [], [], 0⟩) rfl rfl ⟨.refl _, .refl _, .refl _, trivial⟩ trivial) ?_
   refine AWp.ret ?_
   refine tR ?_
   exact bR _ rfl ⟨rfl, rfl⟩ rfl
  ·
   replace h := ite_fb hc5 h
   refine AWp.skip ?_
   refine tN ?_
   refine q1rq [25] [] ⟨52, (f156z0), [], [], 0⟩ trivial ?_
   have hret := Option.some.inj h
   subst hret
   refine AWp.le (Le.mk (s' := ⟨52, (f156z0), [], [], 0⟩) rfl rfl ⟨.refl _, .refl _, .refl _, trivial⟩ trivial) ?_
   refine AWp.ret ?_
   exact bR _ rfl ⟨rfl, rfl⟩ rfl
def f126 (x1 : List UInt8) : Option (List UInt8 × Int × Int) :=
 (f156 x1).bind fun (r2 : Tq6) =>
 if (r2.2.2 != (0 : Int)) then (
 some ([], (0 : Int), r2.2.2)
 ) else (
 chk (-9223372036854775808 ≤ (((x1.length : Nat) : Int) - r2.2.1) ∧ (((x1.length : Nat) : Int) - r2.2.1) ≤ 9223372036854775807) <|
 chk (0 ≤ (((x1.length : Nat) : Int) - r2.2.1) ∧ (((x1.length : Nat) : Int) - r2.2.1) ≤ 18446744073709551615) <|
 if (decide (r2.1 > (((x1.length : Nat) : Int) - r2.2.1))) then (
 some ([], (0 : Int), (9 : Int))
 ) else (
 chk (-9223372036854775808 ≤ r2.1 ∧ r2.1 ≤ 9223372036854775807) <|
 chk (-9223372036854775808 ≤ (r2.2.1 + r2.1) ∧ (r2.2.1 + r2.1) ≤ 9223372036854775807) <|
 chk (0 ≤ r2.2.1 ∧ r2.2.1 ≤ (r2.2.1 + r2.1) ∧ (r2.2.1 + r2.1) ≤ ((x1.length : Nat) : Int)) <|
 some (((x1.take (((r2.2.1 + r2.1)).toNat)).drop ((r2.2.1).toNat)), (r2.2.1 + r2.1), (0 : Int))
 )
 )
theorem f126_ok  (x1 : List UInt8) (r : List UInt8 × Int × Int) (h : f126 x1 = some r)  : Spec1 Tryz.prog 126 [] [] [] [.str x1] (.tup [.str r.1, .int .i64 r.2.1, .int .i64 r.2.2]) [] := by
 unfold f126 at h
 refine Spec1.body 0 _ _ Tryz.func126 rfl Tryz.ntmps126 rfl rfl ?_
 refine q1rq [] [] ⟨34, [(0, .str x1)], [], [], 0⟩ trivial ?_
 refine AWp.seq ?_
 obtain ⟨r2, hr2, h⟩ := bind_ok h
 refine q1rr [] [(1, ⟨[.str x1], [], [], [], .tup [.int .u64 r2.1, .i r2.2.1, .i r2.2.2], [], [], []⟩)] ⟨34, [(0, .str x1), (5, .int .u64 r2.1), (6, .i r2.2.1), (7, .i r2.2.2)], [], [], 0⟩ (an1 (cpT (f156_ok _ _ hr2))) ?_
 refine tN ?_
 refine AWp.seq ?_
 refine q1rq [] [] ⟨34, [(0, .str x1), (5, .int .u64 r2.1), (6, .i r2.2.1), (7, .i r2.2.2), (16, .bool (r2.2.2 != (0 : Int)))], [], [], 0⟩ trivial ?_
 refine AWp.cond (b := (r2.2.2 != (0 : Int))) (by kernel_rfl) (fun hc1 => ?_) (fun hc1 => ?_)
 ·
  replace h := ite_tb hc1 h
  refine q1rq [] [] ⟨34, [(2, .str []), (3, .i (0 : Int)), (4, .i r2.2.2)], [], [], 0⟩ trivial ?_
  have hret := Option.some.inj h
  subst hret
  refine AWp.le (Le.mk (s' := ⟨34, [(2, .str []), (3, .i (0 : Int)), (4, .i r2.2.2)], [], [], 0⟩) rfl rfl ⟨.refl _, .refl _, .refl _, trivial⟩ trivial) ?_
  refine AWp.ret ?_
  refine tR ?_
  exact bR _ rfl ⟨rfl, rfl⟩ rfl
 ·
  replace h := ite_fb hc1 h
  refine AWp.skip ?_
  refine tN ?_
  refine AWp.seq ?_
  refine AWp.seq ?_
  obtain ⟨ob0, ob1, h⟩ := ck2 h
  refine q1rr [] [] ⟨34, [(0, .str x1), (5, .int .u64 r2.1), (6, .i r2.2.1), (24, .bool (decide (r2.1 > ((lZ x1) - r2.2.1))))], [], [], 0⟩ (an2 ob0 ob1) ?_
  refine tN ?_
  refine AWp.cond (b := (decide (r2.1 > ((lZ x1) - r2.2.1)))) (by kernel_rfl) (fun hc2 => ?_) (fun hc2 => ?_)
  ·
   replace h := ite_tb hc2 h
   refine q1rq [] [] ⟨34, [(2, .str []), (3, .i (0 : Int)), (4, .i (9 : Int))], [], [], 0⟩ trivial ?_
   have hret := Option.some.inj h
   subst hret
   refine AWp.le (Le.mk (s' := ⟨34, [(2, .str []), (3, .i (0 : Int)), (4, .i (9 : Int))], [], [], 0⟩) rfl rfl ⟨.refl _, .refl _, .refl _, trivial⟩ trivial) ?_
   refine AWp.ret ?_
   refine tR ?_
   exact bR _ rfl ⟨rfl, rfl⟩ rfl
  ·
   replace h := ite_fb hc2 h
   refine AWp.skip ?_
   refine tN ?_
   refine AWp.seq ?_
   obtain ⟨ob2, ob3, h⟩ := ck2 h
   refine q1rr [] [] ⟨34, [(0, .str x1), (6, .i r2.2.1), (8, .i (r2.2.1 + r2.1))], [], [], 0⟩ (an2 ob2 ob3) ?_
   refine tN ?_
   refine AWp.seq ?_
   obtain ⟨ob4, h⟩ := chk_some h
   refine q1rr [] [] ⟨34, [(2, .str ((x1.take (((r2.2.1 + r2.1)).toNat)).drop ((r2.2.1).toNat))), (3, .i (r2.2.1 + r2.1)), (4, .i (0 : Int))], [], [], 0⟩ (an1 ob4) ?_
   refine tN ?_
   have hret := Option.some.inj h
   subst hret
   refine AWp.le (Le.mk (s' := ⟨34, [(2, .str ((x1.take (((r2.2.1 + r2.1)).toNat)).drop ((r2.2.1).toNat))), (3, .i (r2.2.1 + r2.1)), (4, .i (0 : Int))], [], [], 0⟩) rfl rfl ⟨.refl _, .refl _, .refl _, trivial⟩ trivial) ?_
   refine AWp.ret ?_
   exact bR _ rfl ⟨rfl, rfl⟩ rfl
def f125_L0 (x1 : List UInt8) (r2 : Tq6) (K1 : (Int × List (List UInt8)) → Option (Int × Int × List (List UInt8))) : Nat → (Int × Nat × List (List UInt8)) → Option (Int × Int × List (List UInt8))
 | 0, _ => none
 | k + 1, (i3, n4, l5) =>
  if (decide ((n4 : Int) < r2.1)) then (
  (f126 (x1.drop ((i3).toNat))).bind fun (r6 : List UInt8 × Int × Int) =>
  chk (0 ≤ i3 ∧ i3 ≤ ((x1.length : Nat) : Int)) <|
  if (r6.2.2 != (0 : Int)) then (
  some ((0 : Int), r6.2.2, [])
  ) else (
  chk (((l5).length + 1) * 16 ≤ 140737488355328) <|
  chk (-9223372036854775808 ≤ (i3 + r6.2.1) ∧ (i3 + r6.2.1) ≤ 9223372036854775807) <|
  chk (((n4 : Int) + (1 : Int)) ≤ 18446744073709551615) <|
  (f125_L0 x1 r2 K1 k) ((i3 + r6.2.1), (n4 + 1), (l5 ++ [r6.1]))
  )
  ) else (
  K1 (i3, l5)
  )
def f125 (x1 : List UInt8) : Option (Int × Int × List (List UInt8)) :=
 (f156 x1).bind fun (r2 : Tq6) =>
 if (r2.2.2 != (0 : Int)) then (
 some ((0 : Int), r2.2.2, [])
 ) else (
 jn (fun ((i7, l8) : Int × List (List UInt8)) =>
 some (i7, (0 : Int), l8)
 ) fun (K1 : (Int × List (List UInt8)) → Option (Int × Int × List (List UInt8))) =>
 f125_L0 x1 r2 K1 FUEL (r2.2.1, 0, [])
 )
theorem f125_ok  (x1 : List UInt8) (r : Int × Int × List (List UInt8)) (h : f125 x1 = some r)  : Spec1 Tryz.prog 125 [] [] [] [.str x1, .fn (.func 126) []] (.tup [.own 3000, .int .i64 r.1, .int .i64 r.2.1]) [(3000, bL 9 1 eS [] r.2.2)] := by
 unfold f125 at h
 refine Spec1.body 0 _ _ Tryz.func125 rfl Tryz.ntmps125 rfl rfl ?_
 refine q1rq [] [] ⟨48, [(0, .str x1), (1, .fn (.func 126) [])], [], [], 0⟩ trivial ?_
 refine AWp.seq ?_
 obtain ⟨r2, hr2, h⟩ := bind_ok h
 refine q1rr [] [(1, ⟨[.str x1], [], [], [], .tup [.int .u64 r2.1, .i r2.2.1, .i r2.2.2], [], [], []⟩)] ⟨48, [(0, .str x1), (1, .fn (.func 126) []), (7, .int .u64 r2.1), (8, .i r2.2.1), (9, .i r2.2.2)], [], [], 0⟩ (an1 (cpT (f156_ok _ _ hr2))) ?_
 refine tN ?_
 refine AWp.seq ?_
 refine q1rq [] [] ⟨48, [(0, .str x1), (1, .fn (.func 126) []), (7, .int .u64 r2.1), (8, .i r2.2.1), (9, .i r2.2.2), (21, .bool (r2.2.2 != (0 : Int)))], [], [], 0⟩ trivial ?_
 refine AWp.cond (b := (r2.2.2 != (0 : Int))) (by kernel_rfl) (fun hc1 => ?_) (fun hc1 => ?_)
 ·
  replace h := ite_tb hc1 h
  refine q1rq [] [] ⟨48, [(4, .nils), (5, .i (0 : Int)), (6, .i r2.2.2)], [], [], 0⟩ trivial ?_
  refine AWp.le (Le.trans (Le.nilOwn 4 3000 9 1 (encF eS [] []) rfl rfl (Nat.le_of_ble_eq_true rfl)) (Le.mk (s' := ⟨48, [(4, .own 3000), (5, .i (0 : Int)), (6, .i r2.2.2)], [(3000, q1bS_9 [])], [], 0⟩) rfl rfl ⟨.refl _, .refl _, .refl _, trivial⟩ ⟨⟨_, rfl, .refl _⟩, trivial⟩)) ?_
  have hret := Option.some.inj h
  subst hret
  refine AWp.le (Le.mk (s' := ⟨48, [(4, .own 3000), (5, .i (0 : Int)), (6, .i r2.2.2)], [(3000, q1bS_9 [])], [], 0⟩) rfl rfl ⟨.refl _, .refl _, .refl _, trivial⟩ ⟨⟨_, rfl, .refl _⟩, trivial⟩) ?_
  refine AWp.ret ?_
  refine tR ?_
  exact bR _ rfl ⟨rfl, rfl⟩ rfl
 ·
  replace h := ite_fb hc1 h
  refine AWp.skip ?_
  refine tN ?_
  refine q1rq [] [] ⟨48, [(0, .str x1), (1, .fn (.func 126) []), (7, .int .u64 r2.1), (8, .i r2.2.1), (10, .nils)], [], [], 0⟩ trivial ?_
  obtain ⟨K1, hK1, h⟩ := jn_some h
  refine AWp.join (α := Int × List (List UInt8)) (fun (x : Int × List (List UInt8)) => match x with | (i7, l8) => ⟨48, [(8, .i i7), (10, .own 5010)], [(5010, q1bS_9 l8)], [], 0⟩) (fun x => K1 x = some r) ?_ ?_
  ·
   refine q1rq [] [] ⟨48, [(0, .str x1), (1, .fn (.func 126) []), (8, .i r2.2.1), (10, .nils), (23, .int .u64 r2.1), (24, .int .u64 (0 : Int))], [], [], 0⟩ trivial ?_
   refine AWp.block ?_
   refine AWp.loopL (α := Nat × (Int × Nat × List (List UInt8))) (fun x => match x with | (_, i3, n4, l5) => ⟨48, [(0, .str x1), (1, .fn (.func 126) []), (8, .i i3), (10, .own 5010), (23, .int .u64 r2.1), (24, .int .u64 (n4 : Int))], [(5010, q1bS_9 l5)], [], 0⟩) (fun x => f125_L0 x1 r2 K1 x.1 x.2 = some r) (fun x => x.1) (FUEL, r2.2.1, 0, []) (Le.trans (Le.trans (Le.nilOwn 10 5010 9 1 (encF eS [] []) rfl rfl (Nat.le_of_ble_eq_true rfl)) (Le.mk (s' := ⟨48, [(0, .str x1), (1, .fn (.func 126) []), (8, .i r2.2.1), (10, .own 5010), (23, .int .u64 r2.1), (24, .int .u64 (0 : Int))], [(5010, q1bS_9 [])], [], 0⟩) rfl rfl ⟨.refl _, .refl _, .refl _, .refl _, .refl _, .refl _, trivial⟩ ⟨⟨_, rfl, .refl _⟩, trivial⟩)) (Le.mk (s' := ⟨48, [(0, .str x1), (1, .fn (.func 126) []), (8, .i r2.2.1), (10, .own 5010), (23, .int .u64 r2.1), (24, .int .u64 (0 : Int))], [(5010, q1bS_9 [])], [], 0⟩) rfl rfl ⟨.refl _, .refl _, .refl _, .refl _, .refl _, .refl _, trivial⟩ ⟨⟨_, rfl, .refl _⟩, trivial⟩)) h ?_
   rintro ⟨k0, i3, n4, l5⟩ h
   cases k0 with
   | zero => exact nomatch (show (none : Option (Int × Int × List (List UInt8))) = some r from h)
   | succ k0 =>
   obtain ⟨C0, hC0⟩ : ∃ C, C = f125_L0 x1 r2 K1 k0 := ⟨_, rfl⟩
   replace h := (f125_L0.eq_2 ..).symm.trans h
   try rw [← hC0] at h
   refine q1rq [] [] ⟨48, [(0, .str x1), (1, .fn (.func 126) []), (8, .i i3), (10, .own 5010), (23, .int .u64 r2.1), (24, .int .u64 (n4 : Int)), (25, .bool (decide ((n4 : Int) < r2.1)))], [(5010, q1bS_9 l5)], [], 0⟩ trivial ?_
   refine AWp.seq ?_
   refine AWp.cond (b := (decide ((n4 : Int) < r2.1))) (by kernel_rfl) (fun hc2 => ?_) (fun hc2 => ?_)
   ·
    replace h := ite_tb hc2 h
    refine AWp.skip ?_
    refine tN ?_
    refine AWp.seq ?_
    refine AWp.block ?_
    refine AWp.seq ?_
    obtain ⟨r6, hr6, h⟩ := bind_ok h
    obtain ⟨ob0, h⟩ := chk_some h
    refine q1rr [] [(4, ⟨[.str (x1.drop ((i3).toNat))], [], [], [], .tup [.str r6.1, .i r6.2.1, .i r6.2.2], [], [], []⟩)] ⟨48, [(0, .str x1), (1, .fn (.func 126) []), (8, .i i3), (10, .own 5010), (11, .str r6.1), (12, .i r6.2.1), (13, .i r6.2.2), (23, .int .u64 r2.1), (24, .int .u64 (n4 : Int))], [(5010, q1bS_9 l5)], [], 0⟩ (an2 ob0 (cpT (f126_ok _ _ hr6))) ?_
    refine tN ?_
    refine AWp.seq ?_
    refine q1rq [] [] ⟨48, [(0, .str x1), (1, .fn (.func 126) []), (8, .i i3), (10, .own 5010), (11, .str r6.1), (12, .i r6.2.1), (13, .i r6.2.2), (23, .int .u64 r2.1), (24, .int .u64 (n4 : Int)), (36, .bool (r6.2.2 != (0 : Int)))], [(5010, q1bS_9 l5)], [], 0⟩ trivial ?_
    refine AWp.cond (b := (r6.2.2 != (0 : Int))) (by kernel_rfl) (fun hc3 => ?_) (fun hc3 => ?_)
    ·
     replace h := ite_tb hc3 h
     refine q1rq [] [] ⟨48, [(4, .nils), (5, .i (0 : Int)), (6, .i r6.2.2)], [], [], 0⟩ trivial ?_
     refine AWp.le (Le.trans (Le.nilOwn 4 3000 9 1 (encF eS [] []) rfl rfl (Nat.le_of_ble_eq_true rfl)) (Le.mk (s' := ⟨48, [(4, .own 3000), (5, .i (0 : Int)), (6, .i r6.2.2)], [(3000, q1bS_9 [])], [], 0⟩) rfl rfl ⟨.refl _, .refl _, .refl _, trivial⟩ ⟨⟨_, rfl, .refl _⟩, trivial⟩)) ?_
     have hret := Option.some.inj h
     subst hret
     refine AWp.le (Le.mk (s' := ⟨48, [(4, .own 3000), (5, .i (0 : Int)), (6, .i r6.2.2)], [(3000, q1bS_9 [])], [], 0⟩) rfl rfl ⟨.refl _, .refl _, .refl _, trivial⟩ ⟨⟨_, rfl, .refl _⟩, trivial⟩) ?_
     refine AWp.ret ?_
     refine tR ?_
     refine kR ?_
     refine tR ?_
     refine tR ?_
     refine kR ?_
     refine joinQ_ret ?_
     exact bR _ rfl ⟨rfl, rfl⟩ rfl
    ·
     replace h := ite_fb hc3 h
     refine AWp.skip ?_
     refine tN ?_
     refine AWp.seq ?_
     obtain ⟨ob1, h⟩ := chk_some h
     refine q1rr [] [] ⟨48, [(0, .str x1), (1, .fn (.func 126) []), (8, .i i3), (10, .own 5010), (12, .i r6.2.1), (23, .int .u64 r2.1), (24, .int .u64 (n4 : Int))], [(5010, .rows 9 1 ((l5).length + 1) (appF (l5).length (encF eS [] l5) (lstF 1 [.str r6.1])))], [], 0⟩ (an1 ob1) ?_
     refine tN ?_
     refine AWp.le (Le.mk (s' := ⟨48, [(0, .str x1), (1, .fn (.func 126) []), (8, .i i3), (10, .own 5010), (12, .i r6.2.1), (23, .int .u64 r2.1), (24, .int .u64 (n4 : Int))], [(5010, q1bS_9 (l5 ++ [r6.1]))], [], 0⟩) rfl rfl ⟨.refl _, .refl _, .refl _, .refl _, .refl _, .refl _, .refl _, trivial⟩ ⟨⟨_, rfl, (BLe.of (RL.app (RL.self _) (RL.lst (enc := eS) [r6.1] rfl rfl (fun _ => rfl))))⟩, trivial⟩) ?_
     obtain ⟨ob2, h⟩ := chk_some h
     refine q1rr [] [] ⟨48, [(0, .str x1), (1, .fn (.func 126) []), (8, .i (i3 + r6.2.1)), (10, .own 5010), (23, .int .u64 r2.1), (24, .int .u64 (n4 : Int))], [(5010, q1bS_9 (l5 ++ [r6.1]))], [], 0⟩ (an1 ob2) ?_
     refine kN ?_
     refine tN ?_
     obtain ⟨ob3p, h⟩ := chk_some h
     have ob3 : 0 ≤ ((n4 : Int) + (1 : Int)) ∧ ((n4 : Int) + (1 : Int)) ≤ 18446744073709551615 := ⟨by omega, ob3p⟩
     refine q1rr [] [] ⟨48, [(0, .str x1), (1, .fn (.func 126) []), (8, .i (i3 + r6.2.1)), (10, .own 5010), (23, .int .u64 r2.1), (24, .int .u64 (((n4 + 1) : Nat) : Int))], [(5010, q1bS_9 (l5 ++ [r6.1]))], [], 0⟩ (an1 ob3) ?_
     rw [hC0] at h
     exact lN (_, (i3 + r6.2.1), (n4 + 1), (l5 ++ [r6.1])) (Le.mk rfl rfl ⟨.refl _, .refl _, .refl _, .refl _, .refl _, .refl _, trivial⟩ ⟨⟨_, rfl, .refl _⟩, trivial⟩) h (Nat.lt_succ_self _)
   ·
    replace h := ite_fb hc2 h
    refine AWp.exit ?_
    refine tE ?_
    refine tE ?_
    refine kS ?_
    exact jN (i3, l5) (Le.mk rfl rfl ⟨.refl _, .refl _, trivial⟩ ⟨⟨_, rfl, .refl _⟩, trivial⟩) h
  ·
   rintro ⟨i7, l8⟩ h
   replace h := (congrFun hK1 _).symm.trans h
   refine q1rq [] [] ⟨48, [(4, .own 5010), (5, .i i7), (6, .i (0 : Int))], [(5010, q1bS_9 l8)], [], 0⟩ trivial ?_
   refine AWp.le (Le.trans (Le.ren (swapN 5010 3000) (swapN_inv 5010 3000) rfl) (Le.mk (s' := ⟨48, [(4, .own 3000), (5, .i i7), (6, .i (0 : Int))], [(3000, q1bS_9 l8)], [], 0⟩) rfl rfl ⟨.refl _, .refl _, .refl _, trivial⟩ ⟨⟨_, rfl, .refl _⟩, trivial⟩)) ?_
   have hret := Option.some.inj h
   subst hret
   refine AWp.le (Le.mk (s' := ⟨48, [(4, .own 3000), (5, .i i7), (6, .i (0 : Int))], [(3000, q1bS_9 l8)], [], 0⟩) rfl rfl ⟨.refl _, .refl _, .refl _, trivial⟩ ⟨⟨_, rfl, .refl _⟩, trivial⟩) ?_
   refine AWp.ret ?_
   exact bR _ rfl ⟨rfl, rfl⟩ rfl
def f96 (x1 : List UInt8) : Option (Int × Int × List (List UInt8)) :=
 (f125 x1).bind fun (r2 : Int × Int × List (List UInt8)) =>
 some (r2.1, r2.2.1, r2.2.2)
theorem f96_ok  (x1 : List UInt8) (r : Int × Int × List (List UInt8)) (h : f96 x1 = some r)  : Spec1 Tryz.prog 96 [] [] [] [.str x1] (.tup [.own 3000, .int .i64 r.1, .int .i64 r.2.1]) [(3000, bL 9 1 eS [] r.2.2)] := by
 unfold f96 at h
 refine Spec1.body 0 _ _ Tryz.func96 rfl Tryz.ntmps96 rfl rfl ?_
 refine q1rq [] [] ⟨10, [(0, .str x1)], [], [], 0⟩ trivial ?_
 refine AWp.seq ?_
 obtain ⟨r2, hr2, h⟩ := bind_ok h
 refine q1rr [] [(1, ⟨[.str x1, .fn (.func 126) []], [], [], [(6001, q1bS_9 r2.2.2)], .tup [.own 6001, .i r2.1, .i r2.2.1], [6001], [], []⟩)] ⟨10, [(2, .own 6001), (3, .i r2.1), (4, .i r2.2.1)], [(6001, q1bS_9 r2.2.2)], [], 0⟩ (an1 (cpT (Spec1.ren (swapN 3000 6001) (swapN_inv 3000 6001) rfl (f125_ok _ _ hr2)))) ?_
 refine tN ?_
 refine AWp.le (Le.trans (Le.ren (swapN 6001 3000) (swapN_inv 6001 3000) rfl) (Le.mk (s' := ⟨10, [(2, .own 3000), (3, .i r2.1), (4, .i r2.2.1)], [(3000, q1bS_9 r2.2.2)], [], 0⟩) rfl rfl ⟨.refl _, .refl _, .refl _, trivial⟩ ⟨⟨_, rfl, .refl _⟩, trivial⟩)) ?_
 have hret := Option.some.inj h
 subst hret
 refine AWp.le (Le.mk (s' := ⟨10, [(2, .own 3000), (3, .i r2.1), (4, .i r2.2.1)], [(3000, q1bS_9 r2.2.2)], [], 0⟩) rfl rfl ⟨.refl _, .refl _, .refl _, trivial⟩ ⟨⟨_, rfl, .refl _⟩, trivial⟩) ?_
 refine AWp.ret ?_
 exact bR _ rfl ⟨rfl, rfl⟩ rfl
def f97 (x1 : List UInt8) : Option Tq3 := atoiO x1
theorem f97_ok (x1 : List UInt8) (r : Tq3) (h : f97 x1 = some r) : Spec1 Tryz.prog 97 [(2, errG), (3, errG)] [] [] [.str x1] (.tup [.int .i64 r.1, .ifc r.2]) [] :=
 atoi_spec Tryz.lays172 rfl rfl rfl x1 r h
def f197 (x1 : Int) (x2 : Int) (x3 : List UInt8) (x4 : Int) (x5 : Int) (x6 : List UInt8) : Option Bool :=
 some ((x1 == x4) && (x2 == x5))
theorem f197_ok  (x1 : Int) (x2 : Int) (x3 : List UInt8) (x4 : Int) (x5 : Int) (x6 : List UInt8) (r : Bool) (h : f197 x1 x2 x3 x4 x5 x6 = some r)  : Spec1 Tryz.prog 197 [] [] [] [.agg [.int .i64 x1, .int .i64 x2, .str x3], .agg [.int .i64 x4, .int .i64 x5, .str x6]] (.bool r) [] := by
 unfold f197 at h
 refine Spec1.body 0 _ _ Tryz.func197 rfl Tryz.ntmps197 rfl rfl ?_
 refine q1rq [] [] ⟨17, [(2, .ptr 2 0), (3, .ptr 3 0)], [(2, .cells 88 [.i x1, .i x2, .str x3]), (3, .cells 88 [.i x4, .i x5, .str x6])], [], 0⟩ trivial ?_
 refine AWp.seq ?_
 have ob0 := idA (((x1 == x4) == true) = true)
 have ob1 := idA (((x1 == x4) == true) = true)
 have ob2 := idA (((x1 == x4) == true) = true)
 have ob3 := idA (((x1 == x4) == true) = true)
 have ob4 := bqA (x1 == x4) true
 refine q1rr [] [] ⟨17, [(4, .bool ((x1 == x4) && (x2 == x5)))], [], [], 0⟩ (an4 (an1 ob0) (an1 ob1) (an2 ob2 ob3) ob4) ?_
 refine tN ?_
 have hret := Option.some.inj h
 subst hret
 refine AWp.le (Le.mk (s' := ⟨17, [(4, .bool ((x1 == x4) && (x2 == x5)))], [], [], 0⟩) rfl rfl ⟨.refl _, trivial⟩ trivial) ?_
 refine AWp.ret ?_
 exact bR _ rfl ⟨rfl, rfl⟩ rfl
def f196 (x1 : Int) (x2 : Int) (x3 : List UInt8) (x4 : Int) (x5 : Int) (x6 : List UInt8) : Option (Bool × Int × Int × List UInt8) :=
 (f197 x1 x2 x3 x4 x5 x6).bind fun (r7 : Bool) =>
 some (r7, x4, x5, x6)
theorem f196_ok  (x1 : Int) (x2 : Int) (x3 : List UInt8) (x4 : Int) (x5 : Int) (x6 : List UInt8) (r : Bool × Int × Int × List UInt8) (h : f196 x1 x2 x3 x4 x5 x6 = some r)  : Spec1 Tryz.prog 196 [] [2000] [(2000, .cells 88 [.int .i64 x4, .int .i64 x5, .str x6])] [.agg [.int .i64 x1, .int .i64 x2, .str x3], .ptr 2000 0] (.bool r.1) [(2000, .cells 88 [.int .i64 r.2.1, .int .i64 r.2.2.1, .str r.2.2.2])] := by
 unfold f196 at h
 refine Spec1.body 0 _ _ Tryz.func196 rfl Tryz.ntmps196 rfl rfl ?_
 refine q1rq [] [] ⟨7, [(1, .ptr 2000 0), (2, .ptr 2 0)], [(2, .cells 88 [.i x1, .i x2, .str x3]), (2000, .cells 88 [.i x4, .i x5, .str x6])], [2000], 0⟩ trivial ?_
 refine AWp.seq ?_
 obtain ⟨r7, hr7, h⟩ := bind_ok h
 refine q1rr [] [(2, ⟨[.agg [.i x1, .i x2, .str x3], .agg [.i x4, .i x5, .str x6]], [], [], [], .bool r7, [], [], []⟩)] ⟨7, [(3, .bool r7)], [(2000, .cells 88 [.i x4, .i x5, .str x6])], [2000], 0⟩ (an1 (cpT (f197_ok _ _ _ _ _ _ _ hr7))) ?_
 refine tN ?_
 have hret := Option.some.inj h
 subst hret
 refine AWp.le (Le.mk (s' := ⟨7, [(3, .bool r7)], [(2000, .cells 88 [.i x4, .i x5, .str x6])], [2000], 0⟩) rfl rfl ⟨.refl _, trivial⟩ ⟨⟨_, rfl, .refl _⟩, trivial⟩) ?_
 refine AWp.ret ?_
 exact bR _ rfl ⟨rfl, rfl⟩ rfl
def f100_L0 (x1 : List Tq2) (K1 : Tq2 → Option (Int × Int × Int × List UInt8)) : Nat → (Nat × Int × Int × List UInt8) → Option (Int × Int × Int × List UInt8)
 | 0, _ => none
 | k + 1, (n5, i6, i7, s8) =>
  if (decide ((n5 : Int) < (((x1).length : Nat) : Int))) then (
  (f196 ((x1.getD n5 (default : Tq2)).1) ((x1.getD n5 (default : Tq2)).2.1) ((x1.getD n5 (default : Tq2)).2.2) i6 i7 s8).bind fun (r9 : Bool × Int × Int × List UInt8) =>
  chk ((n5 : Int) < (((x1).length : Nat) : Int)) <|
  if r9.1 then (
  some ((n5 : Int), r9.2.1, r9.2.2.1, r9.2.2.2)
  ) else (
  chk (((n5 : Int) + (1 : Int)) ≤ 9223372036854775807) <|
  (f100_L0 x1 K1 k) ((n5 + 1), r9.2.1, r9.2.2.1, r9.2.2.2)
  )
  ) else (
  K1 (i6, i7, s8)
  )
abbrev f100z0 (r9 : Bool × Int × Int × List UInt8) : Heap := [(2000, .cells 88 [.int .i64 r9.2.1, .int .i64 r9.2.2.1, .str r9.2.2.2])]
def f100 (x1 : List Tq2) (x2 : Int) (x3 : Int) (x4 : List UInt8) : Option (Int × Int × Int × List UInt8) :=
 jn (fun ((i10, i11, s12) : Tq2) =>
 some ((-1 : Int), i10, i11, s12)
 ) fun (K1 : Tq2 → Option (Int × Int × Int × List UInt8)) =>
 f100_L0 x1 K1 FUEL (0, x2, x3, x4)
theorem f100_ok  (x1 : List Tq2) (x2 : Int) (x3 : Int) (x4 : List UInt8) (r : Int × Int × Int × List UInt8) (h : f100 x1 x2 x3 x4 = some r)  : Spec1 Tryz.prog 100 [] [2000] [(2000, .cells 88 [.int .i64 x2, .int .i64 x3, .str x4])] [vL 3 eIIS (default : Tq2) x1, .fn (.func 196) [.ptr 2000 0]] (.int .i64 r.1) [(2000, .cells 88 [.int .i64 r.2.1, .int .i64 r.2.2.1, .str r.2.2.2])] := by
 unfold f100 at h
 refine Spec1.body 0 _ _ Tryz.func100 rfl Tryz.ntmps100 rfl rfl ?_
 refine q1rq [] [] ⟨19, [(0, q1aIIS x1), (1, .fn (.func 196) [.ptr 2000 0])], [(2000, .cells 88 [.i x2, .i x3, .str x4])], [2000], 0⟩ trivial ?_
 obtain ⟨K1, hK1, h⟩ := jn_some h
 refine AWp.join (α := Int × Int × List UInt8) (fun (x : Tq2) => match x with | (i10, i11, s12) => ⟨19, [], [(2000, .cells 88 [.i i10, .i i11, .str s12])], [2000], 0⟩) (fun x => K1 x = some r) ?_ ?_
 ·
  refine q1rq [] [] ⟨19, [(0, q1aIIS x1), (1, .fn (.func 196) [.ptr 2000 0]), (7, .i (lZ x1)), (8, .i (0 : Int))], [(2000, .cells 88 [.i x2, .i x3, .str x4])], [2000], 0⟩ trivial ?_
  refine AWp.block ?_
  refine AWp.loopL (α := Nat × (Nat × Int × Int × List UInt8)) (fun x => match x with | (_, n5, i6, i7, s8) => ⟨19, [(0, q1aIIS x1), (1, .fn (.func 196) [.ptr 2000 0]), (7, .i (lZ x1)), (8, .i (n5 : Int))], [(2000, .cells 88 [.i i6, .i i7, .str s8])], [2000], 0⟩) (fun x => f100_L0 x1 K1 x.1 x.2 = some r) (fun x => x.1) (FUEL, 0, x2, x3, x4) (Le.mk (s' := ⟨19, [(0, q1aIIS x1), (1, .fn (.func 196) [.ptr 2000 0]), (7, .i (lZ x1)), (8, .i (0 : Int))], [(2000, .cells 88 [.i x2, .i x3, .str x4])], [2000], 0⟩) rfl rfl ⟨.refl _, .refl _, .refl _, .refl _, trivial⟩ ⟨⟨_, rfl, .refl _⟩, trivial⟩) h ?_
  rintro ⟨k0, n5, i6, i7, s8⟩ h
  cases k0 with
  | zero => exact nomatch (show (none : Option (Int × Int × Int × List UInt8)) = some r from h)
  | succ k0 =>
  obtain ⟨C0, hC0⟩ : ∃ C, C = f100_L0 x1 K1 k0 := ⟨_, rfl⟩
  replace h := (f100_L0.eq_2 ..).symm.trans h
  try rw [← hC0] at h
  refine q1rq [] [] ⟨19, [(0, q1aIIS x1), (1, .fn (.func 196) [.ptr 2000 0]), (7, .i (lZ x1)), (8, .i (n5 : Int)), (9, .bool (decide ((n5 : Int) < (lZ x1))))], [(2000, .cells 88 [.i i6, .i i7, .str s8])], [2000], 0⟩ trivial ?_
  refine AWp.seq ?_
  refine AWp.cond (b := (decide ((n5 : Int) < (lZ x1)))) (by kernel_rfl) (fun hc1 => ?_) (fun hc1 => ?_)
  ·
   replace h := ite_tb hc1 h
   refine AWp.skip ?_
   refine tN ?_
   refine AWp.seq ?_
   refine AWp.block ?_
   refine q1rq [] [] ⟨19, [(0, q1aIIS x1), (1, .fn (.func 196) [.ptr 2000 0]), (5, .i (n5 : Int)), (7, .i (lZ x1)), (8, .i (n5 : Int))], [(2000, .cells 88 [.i i6, .i i7, .str s8])], [2000], 0⟩ trivial ?_
   refine AWp.seq ?_
   obtain ⟨r9, hr9, h⟩ := bind_ok h
   obtain ⟨ob0p, h⟩ := chk_some h
   have ob0 : 0 ≤ (n5 : Int) ∧ (n5 : Int) < (((x1).length : Nat) : Int) := ⟨by omega, ob0p⟩
   refine q1rr [] [(5, ⟨[.agg [.i (x1.getD n5 q1dIIS).1, .i (x1.getD n5 q1dIIS).2.1, .str (x1.getD n5 q1dIIS).2.2], .ptr 2000 0], [2000], [2000], (f100z0 r9), .bool r9.1, [], [], []⟩)] ⟨19, [(0, q1aIIS x1), (1, .fn (.func 196) [.ptr 2000 0]), (5, .i (n5 : Int)), (7, .i (lZ x1)), (8, .i (n5 : Int)), (16, .bool r9.1)], (f100z0 r9), [2000], 0⟩ (an2 ob0 (cpT (f196_ok _ _ _ _ _ _ _ hr9))) ?_
   refine tN ?_
   refine AWp.cond (b := r9.1) (by kernel_rfl) (fun hc2 => ?_) (fun hc2 => ?_)
   ·
    replace h := ite_tb hc2 h
    refine q1rq [] [] ⟨19, [(4, .i (n5 : Int))], (f100z0 r9), [2000], 0⟩ trivial ?_
    have hret := Option.some.inj h
    subst hret
    refine AWp.le (Le.mk (s' := ⟨19, [(4, .i (n5 : Int))], (f100z0 r9), [2000], 0⟩) rfl rfl ⟨.refl _, trivial⟩ ⟨⟨_, rfl, .refl _⟩, trivial⟩) ?_
    refine AWp.ret ?_
    refine kR ?_
    refine tR ?_
    refine tR ?_
    refine kR ?_
    refine joinQ_ret ?_
    exact bR _ rfl ⟨rfl, rfl⟩ rfl
   ·
    replace h := ite_fb hc2 h
    refine AWp.skip ?_
    refine kN ?_
    refine tN ?_
    obtain ⟨ob1p, h⟩ := chk_some h
    have ob1 : -9223372036854775808 ≤ ((n5 : Int) + (1 : Int)) ∧ ((n5 : Int) + (1 : Int)) ≤ 9223372036854775807 := ⟨by omega, ob1p⟩
    refine q1rr [] [] ⟨19, [(0, q1aIIS x1), (1, .fn (.func 196) [.ptr 2000 0]), (7, .i (lZ x1)), (8, .i (((n5 + 1) : Nat) : Int))], (f100z0 r9), [2000], 0⟩ (an1 ob1) ?_
    rw [hC0] at h
    exact lN (_, (n5 + 1), r9.2.1, r9.2.2.1, r9.2.2.2) (Le.mk rfl rfl ⟨.refl _, .refl _, .refl _, .refl _, trivial⟩ ⟨⟨_, rfl, .refl _⟩, trivial⟩) h (Nat.lt_succ_self _)
  ·
   replace h := ite_fb hc1 h
   refine AWp.exit ?_
   refine tE ?_
   refine tE ?_
   refine kS ?_
   exact jN (i6, i7, s8) (Le.mk rfl rfl trivial ⟨⟨_, rfl, .refl _⟩, trivial⟩) h
 ·
  rintro ⟨i10, i11, s12⟩ h
  replace h := (congrFun hK1 _).symm.trans h
  refine q1rq [] [] ⟨19, [(4, .i (-1 : Int))], [(2000, .cells 88 [.i i10, .i i11, .str s12])], [2000], 0⟩ trivial ?_
  have hret := Option.some.inj h
  subst hret
  refine AWp.le (Le.mk (s' := ⟨19, [(4, .i (-1 : Int))], [(2000, .cells 88 [.i i10, .i i11, .str s12])], [2000], 0⟩) rfl rfl ⟨.refl _, trivial⟩ ⟨⟨_, rfl, .refl _⟩, trivial⟩) ?_
  refine AWp.ret ?_
  exact bR _ rfl ⟨rfl, rfl⟩ rfl
abbrev f69z0 (r5 : Int × Int × Int × List UInt8) : Heap := [(2000, .cells 88 [.int .i64 r5.2.1, .int .i64 r5.2.2.1, .str r5.2.2.2])]
def f69 (x1 : List Tq2) (x2 : Int) (x3 : Int) (x4 : List UInt8) : Option (Bool × Int × Int × List UInt8) :=
 (f100 x1 x2 x3 x4).bind fun (r5 : Int × Int × Int × List UInt8) =>
 some ((decide (r5.1 ≥ (0 : Int))), r5.2.1, r5.2.2.1, r5.2.2.2)
theorem f69_ok  (x1 : List Tq2) (x2 : Int) (x3 : Int) (x4 : List UInt8) (r : Bool × Int × Int × List UInt8) (h : f69 x1 x2 x3 x4 = some r)  : Spec1 Tryz.prog 69 [] [2000] [(2000, .cells 88 [.int .i64 x2, .int .i64 x3, .str x4])] [vL 3 eIIS (default : Tq2) x1, .fn (.func 196) [.ptr 2000 0]] (.bool r.1) [(2000, .cells 88 [.int .i64 r.2.1, .int .i64 r.2.2.1, .str r.2.2.2])] := by
 unfold f69 at h
 refine Spec1.body 0 _ _ Tryz.func69 rfl Tryz.ntmps69 rfl rfl ?_
 refine q1rq [] [] ⟨9, [(0, q1aIIS x1), (1, .fn (.func 196) [.ptr 2000 0])], [(2000, .cells 88 [.i x2, .i x3, .str x4])], [2000], 0⟩ trivial ?_
 refine AWp.seq ?_
 obtain ⟨r5, hr5, h⟩ := bind_ok h
 refine q1rr [] [(2, ⟨[q1aIIS x1, .fn (.func 196) [.ptr 2000 0]], [2000], [2000], (f69z0 r5), .i r5.1, [], [], []⟩)] ⟨9, [(4, .bool (decide (r5.1 ≥ (0 : Int))))], (f69z0 r5), [2000], 0⟩ (an1 (cpT (f100_ok _ _ _ _ _ hr5))) ?_
 refine tN ?_
 have hret := Option.some.inj h
 subst hret
 refine AWp.le (Le.mk (s' := ⟨9, [(4, .bool (decide (r5.1 ≥ (0 : Int))))], (f69z0 r5), [2000], 0⟩) rfl rfl ⟨.refl _, trivial⟩ ⟨⟨_, rfl, .refl _⟩, trivial⟩) ?_
 refine AWp.ret ?_
 exact bR _ rfl ⟨rfl, rfl⟩ rfl
def f162 (x1 : List Tq2) (x2 : Int) (x3 : Int) (x4 : List UInt8) : Option Bool :=
 (f69 x1 x2 x3 x4).bind fun (r5 : Bool × Int × Int × List UInt8) =>
 some r5.1
theorem f162_ok  (x1 : List Tq2) (x2 : Int) (x3 : Int) (x4 : List UInt8) (r : Bool) (h : f162 x1 x2 x3 x4 = some r)  : Spec1 Tryz.prog 162 [] [] [] [vL 3 eIIS (default : Tq2) x1, .agg [.int .i64 x2, .int .i64 x3, .str x4]] (.bool r) [] := by
 unfold f162 at h
 refine Spec1.body 0 _ _ Tryz.func162 rfl Tryz.ntmps162 rfl rfl ?_
 refine q1rq [] [] ⟨8, [(0, q1aIIS x1), (3, .ptr 3 0)], [(3, .cells 88 [.i x2, .i x3, .str x4])], [], 0⟩ trivial ?_
 refine AWp.seq ?_
 obtain ⟨r5, hr5, h⟩ := bind_ok h
 refine q1rr [] [(2, ⟨[q1aIIS x1, .fn (.func 196) [.ptr 3 0]], [3], [3], [(3, .cells 88 [.i r5.2.1, .i r5.2.2.1, .str r5.2.2.2])], .bool r5.1, [], [], []⟩)] ⟨8, [(4, .bool r5.1)], [], [], 0⟩ (an1 (cpT (Spec1.ren (swapN 2000 3) (swapN_inv 2000 3) rfl (f69_ok _ _ _ _ _ hr5)))) ?_
 refine tN ?_
 have hret := Option.some.inj h
 subst hret
 refine AWp.le (Le.mk (s' := ⟨8, [(4, .bool r5.1)], [], [], 0⟩) rfl rfl ⟨.refl _, trivial⟩ trivial) ?_
 refine AWp.ret ?_
 exact bR _ rfl ⟨rfl, rfl⟩ rfl
def f129_L0 (x1 : List Tq2) (K1 : Unit → Option Int) : Nat → Nat → Option Int
 | 0, _ => none
 | k + 1, n2 =>
  if (decide ((n2 : Int) < (((x1).length : Nat) : Int))) then (
  chk ((n2 : Int) < (((x1).length : Nat) : Int)) <|
  if ((((decide ((x1.getD n2 (default : Tq2)).1 < (0 : Int))) || (decide ((x1.getD n2 (default : Tq2)).1 ≥ (6 : Int)))) || (decide ((x1.getD n2 (default : Tq2)).2.1 < (1 : Int)))) || (decide ((x1.getD n2 (default : Tq2)).2.1 > (1000000 : Int)))) then (
  some (7 : Int)
  ) else (
  if (((x1.getD n2 (default : Tq2)).2.2) == []) then (
  some (9 : Int)
  ) else (
  if (decide (((((x1.getD n2 (default : Tq2)).2.2).length : Nat) : Int) > (200 : Int))) then (
  some (3 : Int)
  ) else (
  (f162 (x1.take n2) ((x1.getD n2 (default : Tq2)).1) ((x1.getD n2 (default : Tq2)).2.1) ((x1.getD n2 (default : Tq2)).2.2)).bind fun (r3 : Bool) =>
  chk ((n2 : Int) ≤ (((x1).length : Nat) : Int)) <|
  if r3 then (
  some (5 : Int)
  ) else (
  chk (((n2 : Int) + (1 : Int)) ≤ 9223372036854775807) <|
  (f129_L0 x1 K1 k) (n2 + 1)
  )
  )
  )
  )
  ) else (
  K1 ()
  )
theorem f129_L0_e2 (x1 : List Tq2) (K1 : Unit → Option Int) (k : Nat) (n2 : Nat) : f129_L0 x1 K1 (k + 1) n2 =
  if (decide ((n2 : Int) < (((x1).length : Nat) : Int))) then (
  chk ((n2 : Int) < (((x1).length : Nat) : Int)) <|
  if ((((decide ((x1.getD n2 (default : Tq2)).1 < (0 : Int))) || (decide ((x1.getD n2 (default : Tq2)).1 ≥ (6 : Int)))) || (decide ((x1.getD n2 (default : Tq2)).2.1 < (1 : Int)))) || (decide ((x1.getD n2 (default : Tq2)).2.1 > (1000000 : Int)))) then (
  some (7 : Int)
  ) else (
  if (((x1.getD n2 (default : Tq2)).2.2) == []) then (
  some (9 : Int)
  ) else (
  if (decide (((((x1.getD n2 (default : Tq2)).2.2).length : Nat) : Int) > (200 : Int))) then (
  some (3 : Int)
  ) else (
  (f162 (x1.take n2) ((x1.getD n2 (default : Tq2)).1) ((x1.getD n2 (default : Tq2)).2.1) ((x1.getD n2 (default : Tq2)).2.2)).bind fun (r3 : Bool) =>
  chk ((n2 : Int) ≤ (((x1).length : Nat) : Int)) <|
  if r3 then (
  some (5 : Int)
  ) else (
  chk (((n2 : Int) + (1 : Int)) ≤ 9223372036854775807) <|
  (f129_L0 x1 K1 k) (n2 + 1)
  )
  )
  )
  )
  ) else (
  K1 ()
  ) := rfl
abbrev f129z0 (x1 : List Tq2) (n2 : Nat) := (x1.getD n2 (default : Tq2))
abbrev f129z1 (x1 : List Tq2) (n2 : Nat) := ((decide ((f129z0 x1 n2).1 < (0 : Int))) || (decide ((f129z0 x1 n2).1 ≥ (6 : Int))))
abbrev f129z2 (x1 : List Tq2) (n2 : Nat) : List V := [.int .i64 (f129z0 x1 n2).1, .int .i64 (f129z0 x1 n2).2.1, .str (f129z0 x1 n2).2.2]
abbrev f129z3 (x1 : List Tq2) (n2 : Nat) := ((f129z1 x1 n2) || (decide ((f129z0 x1 n2).2.1 < (1 : Int))))
abbrev f129z4 (x1 : List Tq2) (n2 : Nat) := ((decide ((f129z0 x1 n2).1 < (0 : Int))) == false)
def f129 (x1 : List Tq2) : Option Int :=
 jn (fun (_ : Unit) =>
 some (0 : Int)
 ) fun (K1 : Unit → Option Int) =>
 f129_L0 x1 K1 FUEL 0
theorem f129_ok  (x1 : List Tq2) (r : Int) (h : f129 x1 = some r)  : Spec1 Tryz.prog 129 [] [] [] [vL 3 eIIS (default : Tq2) x1] (.int .i64 r) [] := by
 unfold f129 at h
 refine Spec1.body 0 _ _ Tryz.func129 rfl Tryz.ntmps129 rfl rfl ?_
 refine q1rq [] [] ⟨47, [(0, q1aIIS x1)], [], [], 0⟩ trivial ?_
 obtain ⟨K1, hK1, h⟩ := jn_some h
 refine AWp.join (α := Unit) (fun (x : Unit) => match x with | () => ⟨47, [], [], [], 0⟩) (fun x => K1 x = some r) ?_ ?_
 ·
  refine q1rq [] [] ⟨47, [(0, q1aIIS x1), (5, q1aIIS x1), (6, .i (lZ x1)), (7, .i (0 : Int))], [], [], 0⟩ trivial ?_
  refine AWp.block ?_
  refine AWp.loopL (α := Nat × Nat) (fun x => match x with | (_, n2) => ⟨47, [(0, q1aIIS x1), (5, q1aIIS x1), (6, .i (lZ x1)), (7, .i (n2 : Int))], [], [], 0⟩) (fun x => f129_L0 x1 K1 x.1 x.2 = some r) (fun x => x.1) (FUEL, 0) (Le.mk (s' := ⟨47, [(0, q1aIIS x1), (5, q1aIIS x1), (6, .i (lZ x1)), (7, .i (0 : Int))], [], [], 0⟩) rfl rfl ⟨.refl _, .refl _, .refl _, .refl _, trivial⟩ trivial) h ?_
  rintro ⟨k0, n2⟩ h
  cases k0 with
  | zero => exact nomatch (show (none : Option Int) = some r from h)
  | succ k0 =>
  obtain ⟨C0, hC0⟩ : ∃ C, C = f129_L0 x1 K1 k0 := ⟨_, rfl⟩
  replace h := (f129_L0_e2 ..).symm.trans h
  try rw [← hC0] at h
  refine q1rq [] [] ⟨47, [(0, q1aIIS x1), (5, q1aIIS x1), (6, .i (lZ x1)), (7, .i (n2 : Int)), (8, .bool (decide ((n2 : Int) < (lZ x1))))], [], [], 0⟩ trivial ?_
  refine AWp.seq ?_
  refine AWp.cond (b := (decide ((n2 : Int) < (lZ x1)))) (by kernel_rfl) (fun hc1 => ?_) (fun hc1 => ?_)
  ·
   replace h := ite_tb hc1 h
   refine AWp.skip ?_
   refine tN ?_
   refine AWp.seq ?_
   refine AWp.block ?_
   refine AWp.seq ?_
   obtain ⟨ob0p, h⟩ := chk_some h
   have ob0 : 0 ≤ (n2 : Int) ∧ (n2 : Int) < (((x1).length : Nat) : Int) := ⟨by omega, ob0p⟩
   refine q1rr [] [] ⟨47, [(0, q1aIIS x1), (3, .i (n2 : Int)), (4, .ptr 4 0), (5, q1aIIS x1), (6, .i (lZ x1)), (7, .i (n2 : Int))], [(4, .cells 88 (f129z2 x1 n2))], [], 0⟩ (an2 ob0 trivial) ?_
   refine tN ?_
   refine AWp.block ?_
   refine AWp.seq ?_
   have ob1 := idA ((f129z4 x1 n2) = true)
   have ob2 := idA ((f129z4 x1 n2) = true)
   have ob3 : true = true → (decide ((f129z0 x1 n2).1 < (0 : Int))) = false → (f129z4 x1 n2) = true := fun _ h => beq_iff_eq.2 h
   have ob4 := idA (((f129z1 x1 n2) == false) = true)
   have ob5 := idA (((f129z1 x1 n2) == false) = true)
   have ob6 := bqA (f129z1 x1 n2) false
   have ob7 := idA (((f129z3 x1 n2) == false) = true)
   have ob8 := idA (((f129z3 x1 n2) == false) = true)
   have ob9 := bqA (f129z3 x1 n2) false
   refine q1rr [] [] ⟨47, [(0, q1aIIS x1), (3, .i (n2 : Int)), (4, .ptr 4 0), (5, q1aIIS x1), (6, .i (lZ x1)), (7, .i (n2 : Int)), (12, .bool ((f129z3 x1 n2) || (decide ((f129z0 x1 n2).2.1 > (1000000 : Int)))))], [(4, .cells 88 (f129z2 x1 n2))], [], 0⟩ (ac6 (an1 ob1) (an1 ob2) ob3 (an1 ob4) (an1 ob5) ob6 (an3 (an1 ob7) (an1 ob8) ob9)) ?_
   refine tN ?_
   refine AWp.cond (b := ((f129z3 x1 n2) || (decide ((f129z0 x1 n2).2.1 > (1000000 : Int))))) (by kernel_rfl) (fun hc2 => ?_) (fun hc2 => ?_)
   ·
    replace h := ite_tb hc2 h
    refine q1rq [] [] ⟨47, [(2, .i (7 : Int))], [], [], 0⟩ trivial ?_
    have hret := Option.some.inj h
    subst hret
    refine AWp.le (Le.mk (s' := ⟨47, [(2, .i (7 : Int))], [], [], 0⟩) rfl rfl ⟨.refl _, trivial⟩ trivial) ?_
    refine AWp.ret ?_
    refine kR ?_
    refine kR ?_
    refine tR ?_
    refine tR ?_
    refine kR ?_
    refine joinQ_ret ?_
    exact bR _ rfl ⟨rfl, rfl⟩ rfl
   ·
    replace h := ite_fb hc2 h
    refine q1rq [] [] ⟨47, [(0, q1aIIS x1), (3, .i (n2 : Int)), (4, .ptr 4 0), (5, q1aIIS x1), (6, .i (lZ x1)), (7, .i (n2 : Int)), (31, .bool (((f129z0 x1 n2).2.2) == []))], [(4, .cells 88 (f129z2 x1 n2))], [], 0⟩ trivial ?_
    refine AWp.cond (b := (((f129z0 x1 n2).2.2) == [])) (by kernel_rfl) (fun hc3 => ?_) (fun hc3 => ?_)
    ·
     replace h := ite_tb hc3 h
     refine q1rq [] [] ⟨47, [(2, .i (9 : Int))], [], [], 0⟩ trivial ?_
     have hret := Option.some.inj h
     subst hret
     refine AWp.le (Le.mk (s' := ⟨47, [(2, .i (9 : Int))], [], [], 0⟩) rfl rfl ⟨.refl _, trivial⟩ trivial) ?_
     refine AWp.ret ?_
     refine kR ?_
     refine kR ?_
     refine tR ?_
     refine tR ?_
     refine kR ?_
     refine joinQ_ret ?_
     exact bR _ rfl ⟨rfl, rfl⟩ rfl
    ·
     replace h := ite_fb hc3 h
     refine q1rq [] [] ⟨47, [(0, q1aIIS x1), (3, .i (n2 : Int)), (4, .ptr 4 0), (5, q1aIIS x1), (6, .i (lZ x1)), (7, .i (n2 : Int)), (35, .bool (decide (((((f129z0 x1 n2).2.2).length : Nat) : Int) > (200 : Int))))], [(4, .cells 88 (f129z2 x1 n2))], [], 0⟩ trivial ?_
     refine AWp.cond (b := (decide (((((f129z0 x1 n2).2.2).length : Nat) : Int) > (200 : Int)))) (by kernel_rfl) (fun hc4 => ?_) (fun hc4 => ?_)
     ·
      replace h := ite_tb hc4 h
      refine q1rq [] [] ⟨47, [(2, .i (3 : Int))], [], [], 0⟩ trivial ?_
      have hret := Option.some.inj h
      subst hret
      refine AWp.le (Le.mk (s' := ⟨47, [(2, .i (3 : Int))], [], [], 0⟩) rfl rfl ⟨.refl _, trivial⟩ trivial) ?_
      refine AWp.ret ?_
      refine kR ?_
      refine kR ?_
      refine tR ?_
      refine tR ?_
      refine kR ?_
      refine joinQ_ret ?_
      exact bR _ rfl ⟨rfl, rfl⟩ rfl
     ·
      replace h := ite_fb hc4 h
      refine AWp.seq ?_
      obtain ⟨r3, hr3, h⟩ := bind_ok h
      obtain ⟨ob10p, h⟩ := chk_some h
      have ob10 : 0 ≤ (n2 : Int) ∧ (n2 : Int) ≤ (((x1).length : Nat) : Int) := ⟨by omega, ob10p⟩
      refine q1rr [] [(4, ⟨[q1aIIS (x1.take n2), .agg (f129z2 x1 n2)], [], [], [], .bool r3, [], [], []⟩)] ⟨47, [(0, q1aIIS x1), (5, q1aIIS x1), (6, .i (lZ x1)), (7, .i (n2 : Int)), (40, .bool r3)], [], [], 0⟩ (an2 ob10 (cpL (c := true) [] [] [.arr 3 n2 (encF eIIS q1dIIS x1), .agg (f129z2 x1 n2)] (fun _ => (f162_ok _ _ _ _ _ hr3)) (fun _ => ⟨(VLe.takeL (by first | omega | (simp only [List.length_append, List.length_cons, List.length_nil, List.length_take, List.length_drop] at *; omega) | (simp; done) | (simp_all; done) | (simp_all; omega) | rfl)), .refl _, trivial⟩) (.inl rfl))) ?_
      refine tN ?_
      refine AWp.cond (b := r3) (by kernel_rfl) (fun hc5 => ?_) (fun hc5 => ?_)
      ·
       replace h := ite_tb hc5 h
       refine q1rq [] [] ⟨47, [(2, .i (5 : Int))], [], [], 0⟩ trivial ?_
       have hret := Option.some.inj h
       subst hret
       refine AWp.le (Le.mk (s' := ⟨47, [(2, .i (5 : Int))], [], [], 0⟩) rfl rfl ⟨.refl _, trivial⟩ trivial) ?_
       refine AWp.ret ?_
       refine kR ?_
       refine kR ?_
       refine tR ?_
       refine tR ?_
       refine kR ?_
       refine joinQ_ret ?_
       exact bR _ rfl ⟨rfl, rfl⟩ rfl
      ·
       replace h := ite_fb hc5 h
       refine AWp.skip ?_
       refine kN ?_
       refine kN ?_
       refine tN ?_
       obtain ⟨ob11p, h⟩ := chk_some h
       have ob11 : -9223372036854775808 ≤ ((n2 : Int) + (1 : Int)) ∧ ((n2 : Int) + (1 : Int)) ≤ 9223372036854775807 := ⟨by omega, ob11p⟩
       refine q1rr [] [] ⟨47, [(0, q1aIIS x1), (5, q1aIIS x1), (6, .i (lZ x1)), (7, .i (((n2 + 1) : Nat) : Int))], [], [], 0⟩ (an1 ob11) ?_
       rw [hC0] at h
       exact lN (_, (n2 + 1)) (Le.mk rfl rfl ⟨.refl _, .refl _, .refl _, .refl _, trivial⟩ trivial) h (Nat.lt_succ_self _)
  ·
   replace h := ite_fb hc1 h
   refine AWp.exit ?_
   refine tE ?_
   refine tE ?_
   refine kS ?_
   exact jN () (Le.mk rfl rfl trivial trivial) h
 ·
  rintro ⟨⟩ h
  replace h := (congrFun hK1 _).symm.trans h
  refine q1rq [] [] ⟨47, [(2, .i (0 : Int))], [], [], 0⟩ trivial ?_
  have hret := Option.some.inj h
  subst hret
  refine AWp.le (Le.mk (s' := ⟨47, [(2, .i (0 : Int))], [], [], 0⟩) rfl rfl ⟨.refl _, trivial⟩ trivial) ?_
  refine AWp.ret ?_
  exact bR _ rfl ⟨rfl, rfl⟩ rfl
abbrev f98z0 (x1 : Int) (x2 : Int) (x3 : List Tq2) : Heap := [(1, .cells 100 [.int .i64 x1, .int .i64 x2, vL 3 eIIS (default : Tq2) x3])]
abbrev f98z1 (x2 : Int) := ((decide (x2 < (0 : Int))) || (decide (x2 ≥ (6 : Int))))
abbrev f98z2 : List (Nat × V) := [(2, .int .i64 (1 : Int))]
abbrev f98z3 (x2 : Int) := ((x2 != (0 : Int)) == false)
abbrev f98z4 (x2 : Int) := ((decide (x2 < (0 : Int))) == false)
def f98 (x1 : Int) (x2 : Int) (x3 : List Tq2) : Option Int :=
 if (x1 == (1 : Int)) then (
 if (x2 != (0 : Int)) then (
 some (1 : Int)
 ) else (
 if (decide ((((x3).length : Nat) : Int) > (8 : Int))) then (
 some (3 : Int)
 ) else (
 (f129 x3).bind fun (r4 : Int) =>
 some r4
 )
 )
 ) else (
 if (x1 == (2 : Int)) then (
 if (((decide (x2 < (0 : Int))) || (decide (x2 ≥ (6 : Int)))) || (decide ((((x3).length : Nat) : Int) > (0 : Int)))) then (
 some (1 : Int)
 ) else (
 some (0 : Int)
 )
 ) else (
 if (x1 == (3 : Int)) then (
 if ((x2 != (0 : Int)) || (decide ((((x3).length : Nat) : Int) > (0 : Int)))) then (
 some (1 : Int)
 ) else (
 some (0 : Int)
 )
 ) else (
 some (1 : Int)
 )
 )
 )
theorem f98_ok  (x1 : Int) (x2 : Int) (x3 : List Tq2) (r : Int) (h : f98 x1 x2 x3 = some r)  : Spec1 Tryz.prog 98 [] [] [] [.agg [.int .i64 x1, .int .i64 x2, vL 3 eIIS (default : Tq2) x3]] (.int .i64 r) [] := by
 unfold f98 at h
 refine Spec1.body 0 _ _ Tryz.func98 rfl Tryz.ntmps98 rfl rfl ?_
 refine q1rq [] [] ⟨44, [(1, .ptr 1 0)], (f98z0 x1 x2 x3), [], 0⟩ trivial ?_
 refine AWp.seq ?_
 refine q1rq [] [] ⟨44, [(1, .ptr 1 0), (4, .i x1)], (f98z0 x1 x2 x3), [], 0⟩ trivial ?_
 refine AWp.block ?_
 refine q1rq [] [] ⟨44, [(1, .ptr 1 0), (4, .i x1), (5, .bool (x1 == (1 : Int)))], (f98z0 x1 x2 x3), [], 0⟩ trivial ?_
 refine AWp.cond (b := (x1 == (1 : Int))) (by kernel_rfl) (fun hc1 => ?_) (fun hc1 => ?_)
 ·
  replace h := ite_tb hc1 h
  refine AWp.seq ?_
  refine q1rq [] [] ⟨44, [(1, .ptr 1 0), (9, .bool (x2 != (0 : Int)))], (f98z0 x1 x2 x3), [], 0⟩ trivial ?_
  refine AWp.cond (b := (x2 != (0 : Int))) (by kernel_rfl) (fun hc2 => ?_) (fun hc2 => ?_)
  ·
   replace h := ite_tb hc2 h
   refine q1rq [] [] ⟨44, (f98z2), [], [], 0⟩ trivial ?_
   have hret := Option.some.inj h
   subst hret
   refine AWp.le (Le.mk (s' := ⟨44, (f98z2), [], [], 0⟩) rfl rfl ⟨.refl _, trivial⟩ trivial) ?_
   refine AWp.ret ?_
   refine tR ?_
   refine kR ?_
   refine tR ?_
   exact bR _ rfl ⟨rfl, rfl⟩ rfl
  ·
   replace h := ite_fb hc2 h
   refine AWp.skip ?_
   refine tN ?_
   refine AWp.seq ?_
   refine q1rq [] [] ⟨44, [(1, .ptr 1 0), (13, .bool (decide ((lZ x3) > (8 : Int))))], (f98z0 x1 x2 x3), [], 0⟩ trivial ?_
   refine AWp.cond (b := (decide ((lZ x3) > (8 : Int)))) (by kernel_rfl) (fun hc3 => ?_) (fun hc3 => ?_)
   ·
    replace h := ite_tb hc3 h
    refine q1rq [] [] ⟨44, [(2, .i (3 : Int))], [], [], 0⟩ trivial ?_
    have hret := Option.some.inj h
    subst hret
    refine AWp.le (Le.mk (s' := ⟨44, [(2, .i (3 : Int))], [], [], 0⟩) rfl rfl ⟨.refl _, trivial⟩ trivial) ?_
    refine AWp.ret ?_
    refine tR ?_
    refine kR ?_
    refine tR ?_
    exact bR _ rfl ⟨rfl, rfl⟩ rfl
   ·
    replace h := ite_fb hc3 h
    refine AWp.skip ?_
    refine tN ?_
    refine AWp.seq ?_
    obtain ⟨r4, hr4, h⟩ := bind_ok h
    refine q1rr [] [(2, ⟨[q1aIIS x3], [], [], [], .i r4, [], [], []⟩)] ⟨44, [(2, .i r4)], [], [], 0⟩ (an1 (cpT (f129_ok _ _ hr4))) ?_
    refine tN ?_
    have hret := Option.some.inj h
    subst hret
    refine AWp.le (Le.mk (s' := ⟨44, [(2, .i r4)], [], [], 0⟩) rfl rfl ⟨.refl _, trivial⟩ trivial) ?_
    refine AWp.ret ?_
    refine kR ?_
    refine tR ?_
    exact bR _ rfl ⟨rfl, rfl⟩ rfl
 ·
  replace h := ite_fb hc1 h
  refine q1rq [] [] ⟨44, [(1, .ptr 1 0), (4, .i x1), (17, .bool (x1 == (2 : Int)))], (f98z0 x1 x2 x3), [], 0⟩ trivial ?_
  refine AWp.cond (b := (x1 == (2 : Int))) (by kernel_rfl) (fun hc4 => ?_) (fun hc4 => ?_)
  ·
   replace h := ite_tb hc4 h
   refine AWp.seq ?_
   refine AWp.seq ?_
   have ob0 := idA ((f98z4 x2) = true)
   have ob1 := idA ((f98z4 x2) = true)
   have ob2 : true = true → (decide (x2 < (0 : Int))) = false → (f98z4 x2) = true := fun _ h => beq_iff_eq.2 h
   have ob3 := idA (((f98z1 x2) == false) = true)
   have ob4 := idA (((f98z1 x2) == false) = true)
   have ob5 := idA (((f98z1 x2) == false) = true)
   have ob6 := bqA (f98z1 x2) false
   refine q1rr [] [] ⟨44, [(32, .bool ((f98z1 x2) || (decide ((lZ x3) > (0 : Int)))))], [], [], 0⟩ (ac6 (an1 ob0) (an1 ob1) ob2 (an1 ob3) (an1 ob4) (an1 ob5) (an1 ob6)) ?_
   refine tN ?_
   refine AWp.cond (b := ((f98z1 x2) || (decide ((lZ x3) > (0 : Int))))) (by kernel_rfl) (fun hc5 => ?_) (fun hc5 => ?_)
   ·
    replace h := ite_tb hc5 h
    refine q1rq [] [] ⟨44, (f98z2), [], [], 0⟩ trivial ?_
    have hret := Option.some.inj h
    subst hret
    refine AWp.le (Le.mk (s' := ⟨44, (f98z2), [], [], 0⟩) rfl rfl ⟨.refl _, trivial⟩ trivial) ?_
    refine AWp.ret ?_
    refine tR ?_
    refine kR ?_
    refine tR ?_
    exact bR _ rfl ⟨rfl, rfl⟩ rfl
   ·
    replace h := ite_fb hc5 h
    refine AWp.skip ?_
    refine tN ?_
    refine q1rq [] [] ⟨44, [(2, .i (0 : Int))], [], [], 0⟩ trivial ?_
    have hret := Option.some.inj h
    subst hret
    refine AWp.le (Le.mk (s' := ⟨44, [(2, .i (0 : Int))], [], [], 0⟩) rfl rfl ⟨.refl _, trivial⟩ trivial) ?_
    refine AWp.ret ?_
    refine kR ?_
    refine tR ?_
    exact bR _ rfl ⟨rfl, rfl⟩ rfl
  ·
   replace h := ite_fb hc4 h
   refine q1rq [] [] ⟨44, [(1, .ptr 1 0), (33, .bool (x1 == (3 : Int)))], (f98z0 x1 x2 x3), [], 0⟩ trivial ?_
   refine AWp.cond (b := (x1 == (3 : Int))) (by kernel_rfl) (fun hc6 => ?_) (fun hc6 => ?_)
   ·
    replace h := ite_tb hc6 h
    refine AWp.seq ?_
    refine AWp.seq ?_
    have ob7 := idA ((f98z3 x2) = true)
    have ob8 := idA ((f98z3 x2) = true)
    have ob9 := idA ((f98z3 x2) = true)
    have ob10 : true = true → (x2 != (0 : Int)) = false → (f98z3 x2) = true := fun _ h => beq_iff_eq.2 h
    refine q1rr [] [] ⟨44, [(43, .bool ((x2 != (0 : Int)) || (decide ((lZ x3) > (0 : Int)))))], [], [], 0⟩ (an4 (an1 ob7) (an1 ob8) (an1 ob9) ob10) ?_
    refine tN ?_
    refine AWp.cond (b := ((x2 != (0 : Int)) || (decide ((lZ x3) > (0 : Int))))) (by kernel_rfl) (fun hc7 => ?_) (fun hc7 => ?_)
    ·
     replace h := ite_tb hc7 h
     refine q1rq [] [] ⟨44, (f98z2), [], [], 0⟩ trivial ?_
     have hret := Option.some.inj h
     subst hret
     refine AWp.le (Le.mk (s' := ⟨44, (f98z2), [], [], 0⟩) rfl rfl ⟨.refl _, trivial⟩ trivial) ?_
     refine AWp.ret ?_
     refine tR ?_
     refine kR ?_
     refine tR ?_
     exact bR _ rfl ⟨rfl, rfl⟩ rfl
    ·
     replace h := ite_fb hc7 h
     refine AWp.skip ?_
     refine tN ?_
     refine q1rq [] [] ⟨44, [(2, .i (0 : Int))], [], [], 0⟩ trivial ?_
     have hret := Option.some.inj h
     subst hret
     refine AWp.le (Le.mk (s' := ⟨44, [(2, .i (0 : Int))], [], [], 0⟩) rfl rfl ⟨.refl _, trivial⟩ trivial) ?_
     refine AWp.ret ?_
     refine kR ?_
     refine tR ?_
     exact bR _ rfl ⟨rfl, rfl⟩ rfl
   ·
    replace h := ite_fb hc6 h
    refine AWp.skip ?_
    refine kN ?_
    refine tN ?_
    refine q1rq [] [] ⟨44, (f98z2), [], [], 0⟩ trivial ?_
    have hret := Option.some.inj h
    subst hret
    refine AWp.le (Le.mk (s' := ⟨44, (f98z2), [], [], 0⟩) rfl rfl ⟨.refl _, trivial⟩ trivial) ?_
    refine AWp.ret ?_
    exact bR _ rfl ⟨rfl, rfl⟩ rfl
def f58 (x1 : Int) : Option (List UInt8) := itoaO x1
theorem f58_ok (x1 : Int) (r : List UInt8) (h : f58 x1 = some r) : Spec1 Tryz.prog 58 [(1, .tab .u64 Lib.pow10Tab)] [] [] [.int .i64 x1] (.str r) [] :=
 itoa_spec (by kernel_rfl) (fun n w h0 h1 ht => Any.strconv_Itoa Tryz.lays171 n h0 h1 w ht) x1 r h
def f130 (x1 : List (List UInt8)) : Option (List UInt8) := plistO x1
theorem f130_ok (x1 : List (List UInt8)) (r : List UInt8) (h : f130 x1 = some r) : Spec1 Tryz.prog 130 [] [] [] [vL 1 eS [] x1] (.str r) [] := plist_spec x1 r h
def f99_L0 (x3 : List Tq2) (K1 : (List (List UInt8)) → Option (List UInt8)) : Nat → (Nat × List (List UInt8)) → Option (List UInt8)
 | 0, _ => none
 | k + 1, (n7, l8) =>
  if (decide ((n7 : Int) < (((x3).length : Nat) : Int))) then (
  chk ((n7 : Int) < (((x3).length : Nat) : Int)) <|
  (f58 ((x3.getD n7 (default : Tq2)).1)).bind fun (r9 : List UInt8) =>
  (f58 ((x3.getD n7 (default : Tq2)).2.1)).bind fun (r10 : List UInt8) =>
  chk (((l8).length + 3) * 16 ≤ 140737488355328) <|
  chk (((n7 : Int) + (1 : Int)) ≤ 9223372036854775807) <|
  (f99_L0 x3 K1 k) ((n7 + 1), (l8 ++ [r9, r10, (x3.getD n7 (default : Tq2)).2.2]))
  ) else (
  K1 l8
  )
abbrev f99z0 (x3 : List Tq2) (n7 : Nat) : List (Nat × V) := [(3, .own 19), (21, vL 3 eIIS (default : Tq2) x3), (22, .int .i64 (((x3).length : Nat) : Int)), (23, .int .i64 (n7 : Int)), (1000001, .tab .u64 Lib.pow10Tab)]
abbrev f99z1 (x3 : List Tq2) (n7 : Nat) := (x3.getD n7 (default : Tq2))
abbrev f99z2 (x1 : Int) (x2 : Int) (x3 : List Tq2) : List V := [.int .i64 x1, .int .i64 x2, vL 3 eIIS (default : Tq2) x3]
def f99 (x1 : Int) (x2 : Int) (x3 : List Tq2) : Option (List UInt8) :=
 if (x1 == (2 : Int)) then (
 (f58 x2).bind fun (r4 : List UInt8) =>
 (f130 ([([106, 111, 105, 110] : List UInt8), r4])).bind fun (r5 : List UInt8) =>
 some r5
 ) else (
 if (x1 == (3 : Int)) then (
 (f130 [cs1]).bind fun (r6 : List UInt8) =>
 some r6
 ) else (
 jn (fun (l11 : List (List UInt8)) =>
 (f130 l11).bind fun (r12 : List UInt8) =>
 some r12
 ) fun (K1 : (List (List UInt8)) → Option (List UInt8)) =>
 f99_L0 x3 K1 FUEL (0, [cs2])
 )
 )
theorem f99_ok  (x1 : Int) (x2 : Int) (x3 : List Tq2) (r : List UInt8) (h : f99 x1 x2 x3 = some r)  : Spec1 Tryz.prog 99 [(1, .tab .u64 Lib.pow10Tab)] [] [] [.agg [.int .i64 x1, .int .i64 x2, vL 3 eIIS (default : Tq2) x3]] (.str r) [] := by
 unfold f99 at h
 refine Spec1.body 0 _ _ Tryz.func99 rfl Tryz.ntmps99 rfl rfl ?_
 refine q1rq [] [] ⟨41, [(1, .ptr 1 0), (1000001, .tab .u64 Lib.pow10Tab)], [(1, .cells 100 (f99z2 x1 x2 x3))], [], 0⟩ trivial ?_
 refine AWp.seq ?_
 refine q1rq [] [] ⟨41, [(1, .ptr 1 0), (7, .i x1), (1000001, .tab .u64 Lib.pow10Tab)], [(1, .cells 100 (f99z2 x1 x2 x3))], [], 0⟩ trivial ?_
 refine AWp.block ?_
 refine q1rq [] [] ⟨41, [(1, .ptr 1 0), (7, .i x1), (8, .bool (x1 == (2 : Int))), (1000001, .tab .u64 Lib.pow10Tab)], [(1, .cells 100 (f99z2 x1 x2 x3))], [], 0⟩ trivial ?_
 refine AWp.cond (b := (x1 == (2 : Int))) (by kernel_rfl) (fun hc1 => ?_) (fun hc1 => ?_)
 ·
  replace h := ite_tb hc1 h
  refine AWp.seq ?_
  obtain ⟨r4, hr4, h⟩ := bind_ok h
  obtain ⟨r5, hr5, h⟩ := bind_ok h
  refine q1rr [] [(2, ⟨[.i x2], [], [], [], .str r4, [], [], [1]⟩), (4, ⟨[q1aS [([106, 111, 105, 110] : List UInt8), r4]], [], [], [], .str r5, [], [13], []⟩)] ⟨41, [(2, .str r5), (1000001, .tab .u64 Lib.pow10Tab)], [], [], 0⟩ (an2 (cpT (f58_ok _ _ hr4)) (cpL (c := true) [(13, .rows 9 1 2 (lstF 1 [.str ([106, 111, 105, 110] : List UInt8), .str r4]))] [13] [.own 13] (fun _ => (f130_ok _ _ hr5)) (fun _ => ⟨(VLe.of (RL.lst (enc := eS) [([106, 111, 105, 110] : List UInt8), r4] rfl rfl (fun _ => rfl))), trivial⟩) (.inr ⟨rfl, trivial⟩))) ?_
  refine tN ?_
  have hret := Option.some.inj h
  subst hret
  refine AWp.le (Le.mk (s' := ⟨41, [(2, .str r5)], [], [], 0⟩) rfl rfl ⟨.refl _, trivial⟩ trivial) ?_
  refine AWp.ret ?_
  refine kR ?_
  refine tR ?_
  exact bR _ rfl ⟨rfl, rfl⟩ rfl
 ·
  replace h := ite_fb hc1 h
  refine q1rq [] [] ⟨41, [(1, .ptr 1 0), (15, .bool (x1 == (3 : Int))), (1000001, .tab .u64 Lib.pow10Tab)], [(1, .cells 100 (f99z2 x1 x2 x3))], [], 0⟩ trivial ?_
  refine AWp.cond (b := (x1 == (3 : Int))) (by kernel_rfl) (fun hc2 => ?_) (fun hc2 => ?_)
  ·
   replace h := ite_tb hc2 h
   refine AWp.seq ?_
   obtain ⟨r6, hr6, h⟩ := bind_ok h
   refine q1rr [] [(1, ⟨[q1aS [cs1]], [], [], [], .str r6, [], [17], []⟩)] ⟨41, [(2, .str r6), (1000001, .tab .u64 Lib.pow10Tab)], [], [], 0⟩ (an1 (cpL (c := true) [(17, .rows 9 1 1 (lstF 1 [.str cs1]))] [17] [.own 17] (fun _ => (f130_ok _ _ hr6)) (fun _ => ⟨(VLe.of (RL.lst (enc := eS) [cs1] rfl rfl (fun _ => rfl))), trivial⟩) (.inr ⟨rfl, trivial⟩))) ?_
   refine tN ?_
   have hret := Option.some.inj h
   subst hret
   refine AWp.le (Le.mk (s' := ⟨41, [(2, .str r6)], [], [], 0⟩) rfl rfl ⟨.refl _, trivial⟩ trivial) ?_
   refine AWp.ret ?_
   refine kR ?_
   refine tR ?_
   exact bR _ rfl ⟨rfl, rfl⟩ rfl
  ·
   replace h := ite_fb hc2 h
   refine AWp.skip ?_
   refine kN ?_
   refine tN ?_
   refine q1rq [] [] ⟨41, [(1, .ptr 1 0), (3, .own 19), (1000001, .tab .u64 Lib.pow10Tab)], [(1, .cells 100 (f99z2 x1 x2 x3)), (19, .rows 9 1 1 (lstF 1 [.str cs2]))], [], 0⟩ trivial ?_
   refine AWp.le (Le.mk (s' := ⟨41, [(1, .ptr 1 0), (3, .own 19), (1000001, .tab .u64 Lib.pow10Tab)], [(1, .cells 100 (f99z2 x1 x2 x3)), (19, q1bS_9 [cs2])], [], 0⟩) rfl rfl ⟨.refl _, .refl _, .refl _, trivial⟩ ⟨⟨_, rfl, .refl _⟩, ⟨_, rfl, (BLe.of (RL.lst (enc := eS) [cs2] rfl rfl (fun _ => rfl)))⟩, trivial⟩) ?_
   obtain ⟨K1, hK1, h⟩ := jn_some h
   refine AWp.join (α := List (List UInt8)) (fun (l11 : List (List UInt8)) => ⟨41, [(3, .own 19), (1000001, .tab .u64 Lib.pow10Tab)], [(19, q1bS_9 l11)], [], 0⟩) (fun x => K1 x = some r) ?_ ?_
   ·
    refine q1rq [] [] ⟨41, [(3, .own 19), (21, q1aIIS x3), (22, .i (lZ x3)), (23, .i (0 : Int)), (1000001, .tab .u64 Lib.pow10Tab)], [(19, q1bS_9 [cs2])], [], 0⟩ trivial ?_
    refine AWp.block ?_
    refine AWp.loopL (α := Nat × (Nat × List (List UInt8))) (fun x => match x with | (_, n7, l8) => ⟨41, (f99z0 x3 n7), [(19, q1bS_9 l8)], [], 0⟩) (fun x => f99_L0 x3 K1 x.1 x.2 = some r) (fun x => x.1) (FUEL, 0, [cs2]) (Le.mk (s' := ⟨41, [(3, .own 19), (21, q1aIIS x3), (22, .i (lZ x3)), (23, .i (0 : Int)), (1000001, .tab .u64 Lib.pow10Tab)], [(19, q1bS_9 [cs2])], [], 0⟩) rfl rfl ⟨.refl _, .refl _, .refl _, .refl _, .refl _, trivial⟩ ⟨⟨_, rfl, .refl _⟩, trivial⟩) h ?_
    rintro ⟨k0, n7, l8⟩ h
    cases k0 with
    | zero => exact nomatch (show (none : Option (List UInt8)) = some r from h)
    | succ k0 =>
    obtain ⟨C0, hC0⟩ : ∃ C, C = f99_L0 x3 K1 k0 := ⟨_, rfl⟩
    replace h := (f99_L0.eq_2 ..).symm.trans h
    try rw [← hC0] at h
    refine q1rq [] [] ⟨41, [(3, .own 19), (21, q1aIIS x3), (22, .i (lZ x3)), (23, .i (n7 : Int)), (24, .bool (decide ((n7 : Int) < (lZ x3)))), (1000001, .tab .u64 Lib.pow10Tab)], [(19, q1bS_9 l8)], [], 0⟩ trivial ?_
    refine AWp.seq ?_
    refine AWp.cond (b := (decide ((n7 : Int) < (lZ x3)))) (by kernel_rfl) (fun hc3 => ?_) (fun hc3 => ?_)
    ·
     replace h := ite_tb hc3 h
     refine AWp.skip ?_
     refine tN ?_
     refine AWp.seq ?_
     refine AWp.block ?_
     refine AWp.seq ?_
     obtain ⟨ob0p, h⟩ := chk_some h
     have ob0 : 0 ≤ (n7 : Int) ∧ (n7 : Int) < (((x3).length : Nat) : Int) := ⟨by omega, ob0p⟩
     refine q1rr [] [] ⟨41, [(3, .own 19), (5, .ptr 5 0), (21, q1aIIS x3), (22, .i (lZ x3)), (23, .i (n7 : Int)), (1000001, .tab .u64 Lib.pow10Tab)], [(5, .cells 88 [.i (f99z1 x3 n7).1, .i (f99z1 x3 n7).2.1, .str (f99z1 x3 n7).2.2]), (19, q1bS_9 l8)], [], 0⟩ (an2 ob0 trivial) ?_
     refine tN ?_
     obtain ⟨r9, hr9, h⟩ := bind_ok h
     obtain ⟨r10, hr10, h⟩ := bind_ok h
     obtain ⟨ob1, h⟩ := chk_some h
     refine q1rr [] [(3, ⟨[.i (f99z1 x3 n7).1], [], [], [], .str r9, [], [], [1]⟩), (6, ⟨[.i (f99z1 x3 n7).2.1], [], [], [], .str r10, [], [], [1]⟩)] ⟨41, (f99z0 x3 n7), [(19, .rows 9 1 ((l8).length + 3) (appF (l8).length (encF eS [] l8) (lstF 1 [.str r9, .str r10, .str (f99z1 x3 n7).2.2])))], [], 0⟩ (an3 (cpT (f58_ok _ _ hr9)) (cpT (f58_ok _ _ hr10)) ob1) ?_
     refine kN ?_
     refine tN ?_
     refine AWp.le (Le.mk (s' := ⟨41, (f99z0 x3 n7), [(19, q1bS_9 (l8 ++ [r9, r10, (f99z1 x3 n7).2.2]))], [], 0⟩) rfl rfl ⟨.refl _, .refl _, .refl _, .refl _, .refl _, trivial⟩ ⟨⟨_, rfl, (BLe.of (RL.app (RL.self _) (RL.lst (enc := eS) [r9, r10, (f99z1 x3 n7).2.2] rfl rfl (fun _ => rfl))))⟩, trivial⟩) ?_
     obtain ⟨ob2p, h⟩ := chk_some h
     have ob2 : -9223372036854775808 ≤ ((n7 : Int) + (1 : Int)) ∧ ((n7 : Int) + (1 : Int)) ≤ 9223372036854775807 := ⟨by omega, ob2p⟩
     refine q1rr [] [] ⟨41, [(3, .own 19), (21, q1aIIS x3), (22, .i (lZ x3)), (23, .i (((n7 + 1) : Nat) : Int)), (1000001, .tab .u64 Lib.pow10Tab)], [(19, q1bS_9 (l8 ++ [r9, r10, (f99z1 x3 n7).2.2]))], [], 0⟩ (an1 ob2) ?_
     rw [hC0] at h
     exact lN (_, (n7 + 1), (l8 ++ [r9, r10, (f99z1 x3 n7).2.2])) (Le.mk rfl rfl ⟨.refl _, .refl _, .refl _, .refl _, .refl _, trivial⟩ ⟨⟨_, rfl, .refl _⟩, trivial⟩) h (Nat.lt_succ_self _)
    ·
     replace h := ite_fb hc3 h
     refine AWp.exit ?_
     refine tE ?_
     refine tE ?_
     refine kS ?_
     exact jN (l8) (Le.mk rfl rfl ⟨.refl _, .refl _, trivial⟩ ⟨⟨_, rfl, .refl _⟩, trivial⟩) h
   ·
    rintro l11 h
    replace h := (congrFun hK1 _).symm.trans h
    refine AWp.seq ?_
    obtain ⟨r12, hr12, h⟩ := bind_ok h
    refine q1rr [] [(1, ⟨[q1aS l11], [], [], [], .str r12, [], [19], []⟩)] ⟨41, [(2, .str r12), (1000001, .tab .u64 Lib.pow10Tab)], [], [], 0⟩ (an1 (cpL (c := true) [(19, q1bS_9 l11)] [19] [.own 19] (fun _ => (f130_ok _ _ hr12)) (fun _ => ⟨.refl _, trivial⟩) (.inr ⟨rfl, trivial⟩))) ?_
    refine tN ?_
    have hret := Option.some.inj h
    subst hret
    refine AWp.le (Le.mk (s' := ⟨41, [(2, .str r12)], [], [], 0⟩) rfl rfl ⟨.refl _, trivial⟩ trivial) ?_
    refine AWp.ret ?_
    exact bR _ rfl ⟨rfl, rfl⟩ rfl
def f68_L0 (K1 : (Nat × Int × (List Tq2)) → Option (Int × Int × (List Tq2) × Int)) : Nat → (List (List UInt8) × (List Tq2)) → Option (Int × Int × (List Tq2) × Int)
 | 0, _ => none
 | k + 1, (l7, l8) =>
  if (decide ((((l7).length : Nat) : Int) ≥ (3 : Int))) then (
  (f97 (l7.getD 0 [])).bind fun (r9 : Tq3) =>
  chk ((0 : Int) < (((l7).length : Nat) : Int)) <|
  (f97 (l7.getD 1 [])).bind fun (r10 : Tq3) =>
  chk ((1 : Int) < (((l7).length : Nat) : Int)) <|
  chk ((2 : Int) < (((l7).length : Nat) : Int)) <|
  chk (((l8).length + 1) * 32 ≤ 140737488355328) <|
  chk ((3 : Int) ≤ (((l7).length : Nat) : Int)) <|
  (f68_L0 K1 k) ((l7.drop 3), (l8 ++ [(r9.1, r10.1, (l7.getD 2 []))]))
  ) else (
  K1 (1, (0 : Int), l8)
  )
abbrev f68z0 : List V := [.int .i64 (0 : Int), .int .i64 (0 : Int), .nils]
abbrev f68z1 (x1 : List UInt8) : List (Nat × V) := [(0, .str x1), (2, .ptr 2 0), (7, .ptr 7 0), (1000001, .tab .u64 Lib.pow10Tab), (1000002, errG), (1000003, errG)]
abbrev f68z2 (l8 : List Tq2) : Heap := [(2, .cells 100 (f68z0)), (7, .cells 100 [.int .i64 (1 : Int), .int .i64 (0 : Int), .own 6202]), (6202, bL 88 3 eIIS (default : Tq2) l8)]
abbrev f68z3 : Heap := [(2, .cells 100 (f68z0)), (7, .cells 100 [.int .i64 (1 : Int), .int .i64 (0 : Int), .nils])]
abbrev f68z4 (l8 : List Tq2) (r9 : Tq3) (r10 : Tq3) (l7 : List (List UInt8)) : Heap := [(2, .cells 100 (f68z0)), (7, .cells 100 [.int .i64 (1 : Int), .int .i64 (0 : Int), .own 6202]), (6202, bL 88 3 eIIS (default : Tq2) (l8 ++ [(r9.1, r10.1, (l7.getD 2 []))]))]
abbrev f68z5 (x1 : List UInt8) (r2 : Int × Int × List (List UInt8)) : List (Nat × V) := [(0, .str x1), (2, .ptr 2 0), (7, .ptr 7 0), (8, vL 1 eS [] (r2.2.2.drop 1)), (79, .bool ((r2.2.2.getD 0 []) == cs1)), (1000001, .tab .u64 Lib.pow10Tab), (1000002, errG), (1000003, errG)]
abbrev f68z6 : List (Nat × V) := [(2, .ptr 2 0), (3, .int .i64 (0 : Int)), (1000001, .tab .u64 Lib.pow10Tab), (1000002, errG), (1000003, errG)]
abbrev f68z7 := ([106, 111, 105, 110] : List UInt8)
abbrev f68z8 (x1 : List UInt8) (l7 : List (List UInt8)) : List (Nat × V) := [(0, .str x1), (2, .ptr 2 0), (7, .ptr 7 0), (8, vL 1 eS [] l7), (1000001, .tab .u64 Lib.pow10Tab), (1000002, errG), (1000003, errG)]
abbrev f68z9 (n4 : Nat) (i5 : Int) : List V := [.int .i64 (n4 : Int), .int .i64 i5, .own 6202]
abbrev f68z10 (n4 : Nat) (i5 : Int) (l6 : List Tq2) : List V := [.int .i64 (n4 : Int), .int .i64 i5, vL 3 eIIS (default : Tq2) l6]
abbrev f68z11 : List V := [.int .i64 (1 : Int), .int .i64 (0 : Int), .own 6202]
abbrev f68z12 (r11 : Int) := ((r11 != (0 : Int)) == false)
def f68 (x1 : List UInt8) : Option (Int × Int × (List Tq2) × Int) :=
 (f96 x1).bind fun (r2 : Int × Int × List (List UInt8)) =>
 if ((r2.2.1 != (0 : Int)) || ((((r2.2.2).length : Nat) : Int) == (0 : Int))) then (
 some ((0 : Int), (0 : Int), [], (2 : Int))
 ) else (
 chk ((1 : Int) ≤ (((r2.2.2).length : Nat) : Int)) <|
 jn (fun ((n4, i5, l6) : Nat × Int × (List Tq2)) =>
 (f98 (n4 : Int) i5 l6).bind fun (r11 : Int) =>
 optc ((r11 != (0 : Int)) == false) (f99 (n4 : Int) i5 l6) fun (r12 : List UInt8) =>
 if ((r11 != (0 : Int)) || (!(r12 == x1))) then (
 some ((0 : Int), (0 : Int), [], (2 : Int))
 ) else (
 some ((n4 : Int), i5, l6, (0 : Int))
 )
 ) fun (K1 : (Nat × Int × (List Tq2)) → Option (Int × Int × (List Tq2) × Int)) =>
 chk ((0 : Int) < (((r2.2.2).length : Nat) : Int)) <|
 if (((r2.2.2.getD 0 []) == ([106, 111, 105, 110] : List UInt8)) && (((((r2.2.2.drop 1)).length : Nat) : Int) == (1 : Int))) then (
 (f97 ((r2.2.2.drop 1).getD 0 [])).bind fun (r3 : Tq3) =>
 chk ((0 : Int) < ((((r2.2.2.drop 1)).length : Nat) : Int)) <|
 K1 (2, r3.1, [])
 ) else (
 chk ((0 : Int) < (((r2.2.2).length : Nat) : Int)) <|
 if ((r2.2.2.getD 0 []) == cs1) then (
 K1 (3, (0 : Int), [])
 ) else (
 f68_L0 K1 FUEL ((r2.2.2.drop 1), [])
 )
 )
 )
theorem f68_ok  (x1 : List UInt8) (r : Int × Int × (List Tq2) × Int) (h : f68 x1 = some r)  : Spec1 Tryz.prog 68 [(1, .tab .u64 Lib.pow10Tab), (2, errG), (3, errG)] [] [] [.str x1] (.tup [.agg [.int .i64 r.1, .int .i64 r.2.1, vL 3 eIIS (default : Tq2) r.2.2.1], .int .i64 r.2.2.2]) [] := by
 unfold f68 at h
 refine Spec1.bodyD [2] 0 _ _ Tryz.func68 rfl Tryz.ntmps68 rfl rfl ?_
 refine q1rq [] [] ⟨96, [(0, .str x1), (2, .ptr 2 0), (1000001, .tab .u64 Lib.pow10Tab), (1000002, errG), (1000003, errG)], [(2, .cells 100 (f68z0))], [], 0⟩ trivial ?_
 refine AWp.seq ?_
 obtain ⟨r2, hr2, h⟩ := bind_ok h
 refine q1rr [] [(1, ⟨[.str x1], [], [], [(6001, q1bS_9 r2.2.2)], .tup [.own 6001, .i r2.1, .i r2.2.1], [6001], [], []⟩)] ⟨96, [(0, .str x1), (2, .ptr 2 0), (4, .own 6001), (6, .i r2.2.1), (1000001, .tab .u64 Lib.pow10Tab), (1000002, errG), (1000003, errG)], [(2, .cells 100 (f68z0)), (6001, q1bS_9 r2.2.2)], [], 0⟩ (an1 (cpT (Spec1.ren (swapN 3000 6001) (swapN_inv 3000 6001) rfl (f96_ok _ _ hr2)))) ?_
 refine tN ?_
 refine AWp.seq ?_
 refine AWp.seq ?_
 have ob0 := idA (((r2.2.1 != (0 : Int)) == false) = true)
 have ob1 := idA (((r2.2.1 != (0 : Int)) == false) = true)
 have ob2 := bqA (r2.2.1 != (0 : Int)) false
 refine q1rr [] [] ⟨96, [(0, .str x1), (2, .ptr 2 0), (4, .own 6001), (25, .bool ((r2.2.1 != (0 : Int)) || ((lZ r2.2.2) == (0 : Int)))), (1000001, .tab .u64 Lib.pow10Tab), (1000002, errG), (1000003, errG)], [(2, .cells 100 (f68z0)), (6001, q1bS_9 r2.2.2)], [], 0⟩ (an3 (an1 ob0) (an1 ob1) ob2) ?_
 refine tN ?_
 refine AWp.cond (b := ((r2.2.1 != (0 : Int)) || ((lZ r2.2.2) == (0 : Int)))) (by kernel_rfl) (fun hc1 => ?_) (fun hc1 => ?_)
 ·
  replace h := ite_tb hc1 h
  refine q1rq [] [] ⟨96, [(2, .ptr 2 0), (3, .i (2 : Int)), (1000001, .tab .u64 Lib.pow10Tab), (1000002, errG), (1000003, errG)], [(2, .cells 100 (f68z0))], [], 0⟩ (an1 trivial) ?_
  have hret := Option.some.inj h
  subst hret
  refine AWp.le (Le.mk (s' := ⟨96, [(2, .ptr 2 0), (3, .i (2 : Int))], [(2, .cells 100 [.i (0 : Int), .i (0 : Int), q1aIIS []])], [], 0⟩) rfl rfl ⟨.refl _, .refl _, trivial⟩ ⟨⟨_, rfl, (.cellsL ⟨.refl _, .refl _, .nilL, trivial⟩)⟩, trivial⟩) ?_
  refine AWp.ret ?_
  refine tR ?_
  exact bR _ rfl ⟨rfl, rfl⟩ rfl
 ·
  replace h := ite_fb hc1 h
  refine AWp.skip ?_
  refine tN ?_
  refine q1rq [] [] ⟨96, [(0, .str x1), (2, .ptr 2 0), (4, .own 6001), (7, .ptr 7 0), (1000001, .tab .u64 Lib.pow10Tab), (1000002, errG), (1000003, errG)], [(2, .cells 100 (f68z0)), (7, .cells 100 [.i (1 : Int), .i (0 : Int), .nils]), (6001, q1bS_9 r2.2.2)], [], 0⟩ (an1 trivial) ?_
  refine AWp.seq ?_
  refine AWp.le (Le.trans (Le.freeze 6001 rfl rfl) (Le.mk (s' := ⟨96, [(0, .str x1), (2, .ptr 2 0), (4, q1aS r2.2.2), (7, .ptr 7 0), (1000001, .tab .u64 Lib.pow10Tab), (1000002, errG), (1000003, errG)], (f68z3), [], 0⟩) rfl rfl ⟨.refl _, .refl _, .refl _, .refl _, .refl _, .refl _, .refl _, trivial⟩ ⟨⟨_, rfl, .refl _⟩, ⟨_, rfl, .refl _⟩, trivial⟩)) ?_
  obtain ⟨ob3p, h⟩ := chk_some h
  have ob3 : 0 ≤ (1 : Int) ∧ (1 : Int) ≤ (((r2.2.2).length : Nat) : Int) := ⟨by omega, ob3p⟩
  refine q1rr [] [] ⟨96, [(0, .str x1), (2, .ptr 2 0), (4, q1aS r2.2.2), (7, .ptr 7 0), (8, .arr 1 ((r2.2.2).length - 1) (fun i j => (encF eS [] r2.2.2) (i + 1) j)), (1000001, .tab .u64 Lib.pow10Tab), (1000002, errG), (1000003, errG)], (f68z3), [], 0⟩ (an1 ob3) ?_
  refine tN ?_
  refine AWp.le (Le.mk (s' := ⟨96, [(0, .str x1), (2, .ptr 2 0), (4, q1aS r2.2.2), (7, .ptr 7 0), (8, q1aS (r2.2.2.drop 1)), (1000001, .tab .u64 Lib.pow10Tab), (1000002, errG), (1000003, errG)], (f68z3), [], 0⟩) rfl rfl ⟨.refl _, .refl _, .refl _, .refl _, VLe.dropL, .refl _, .refl _, .refl _, trivial⟩ ⟨⟨_, rfl, .refl _⟩, ⟨_, rfl, .refl _⟩, trivial⟩) ?_
  obtain ⟨K1, hK1, h⟩ := jn_some h
  refine AWp.join (α := Nat × Int × (List Tq2)) (fun (x : Nat × Int × (List Tq2)) => match x with | (n4, i5, l6) => ⟨96, (f68z1 x1), [(2, .cells 100 (f68z0)), (7, .cells 100 (f68z9 n4 i5)), (6202, q1bIIS_88 l6)], [], 0⟩) (fun x => K1 x = some r) ?_ ?_
  ·
   refine AWp.block ?_
   refine AWp.seq ?_
   obtain ⟨ob4p, h⟩ := chk_some h
   have ob4 : 0 ≤ (0 : Int) ∧ (0 : Int) < (((r2.2.2).length : Nat) : Int) := ⟨by omega, ob4p⟩
   have ob5 := idA ((((r2.2.2.getD 0 []) == (f68z7)) == true) = true)
   have ob6 := idA ((((r2.2.2.getD 0 []) == (f68z7)) == true) = true)
   have ob7 := bqA ((r2.2.2.getD 0 []) == (f68z7)) true
   refine q1rr [] [] ⟨96, [(0, .str x1), (2, .ptr 2 0), (4, q1aS r2.2.2), (7, .ptr 7 0), (8, q1aS (r2.2.2.drop 1)), (60, .bool (((r2.2.2.getD 0 []) == (f68z7)) && (((((r2.2.2.drop 1)).length : Nat) : Int) == (1 : Int)))), (1000001, .tab .u64 Lib.pow10Tab), (1000002, errG), (1000003, errG)], (f68z3), [], 0⟩ (an4 ob4 (an1 ob5) (an1 ob6) ob7) ?_
   refine tN ?_
   refine AWp.cond (b := (((r2.2.2.getD 0 []) == (f68z7)) && (((((r2.2.2.drop 1)).length : Nat) : Int) == (1 : Int)))) (by kernel_rfl) (fun hc2 => ?_) (fun hc2 => ?_)
   ·
    replace h := ite_tb hc2 h
    refine q1rq [] [] ⟨96, [(0, .str x1), (2, .ptr 2 0), (7, .ptr 7 0), (8, q1aS (r2.2.2.drop 1)), (1000001, .tab .u64 Lib.pow10Tab), (1000002, errG), (1000003, errG)], [(2, .cells 100 (f68z0)), (7, .cells 100 [.i (2 : Int), .i (0 : Int), .nils])], [], 0⟩ (an1 trivial) ?_
    obtain ⟨r3, hr3, h⟩ := bind_ok h
    obtain ⟨ob8p, h⟩ := chk_some h
    have ob8 : 0 ≤ (0 : Int) ∧ (0 : Int) < ((((r2.2.2.drop 1)).length : Nat) : Int) := ⟨by omega, ob8p⟩
    refine q1rr [] [(3, ⟨[.str ((r2.2.2.drop 1).getD 0 [])], [], [], [], .tup [.i r3.1, .ifc r3.2], [], [], [2, 3]⟩)] ⟨96, (f68z1 x1), [(2, .cells 100 (f68z0)), (7, .cells 100 [.i (2 : Int), .i r3.1, .nils])], [], 0⟩ (an3 ob8 (cpT (f97_ok _ _ hr3)) trivial) ?_
    refine kN ?_
    exact jN (2, r3.1, []) (Le.trans (Le.trans (Le.nilOwnC 7 2 6202 88 3 (encF eIIS q1dIIS []) rfl rfl rfl) (Le.mk (s' := ⟨96, (f68z1 x1), [(2, .cells 100 (f68z0)), (7, .cells 100 [.i (2 : Int), .i r3.1, .own 6202]), (6202, q1bIIS_88 [])], [], 0⟩) rfl rfl ⟨.refl _, .refl _, .refl _, .refl _, .refl _, .refl _, trivial⟩ ⟨⟨_, rfl, .refl _⟩, ⟨_, rfl, .refl _⟩, ⟨_, rfl, .refl _⟩, trivial⟩)) (Le.mk rfl rfl ⟨.refl _, .refl _, .refl _, .refl _, .refl _, .refl _, trivial⟩ ⟨⟨_, rfl, .refl _⟩, ⟨_, rfl, .refl _⟩, ⟨_, rfl, .refl _⟩, trivial⟩)) h
   ·
    replace h := ite_fb hc2 h
    refine AWp.seq ?_
    obtain ⟨ob9p, h⟩ := chk_some h
    have ob9 : 0 ≤ (0 : Int) ∧ (0 : Int) < (((r2.2.2).length : Nat) : Int) := ⟨by omega, ob9p⟩
    refine q1rr [] [] ⟨96, (f68z5 x1 r2), (f68z3), [], 0⟩ (an1 ob9) ?_
    refine tN ?_
    refine AWp.cond (b := ((r2.2.2.getD 0 []) == cs1)) (by kernel_rfl) (fun hc3 => ?_) (fun hc3 => ?_)
    ·
     replace h := ite_tb hc3 h
     refine q1rr [] [] ⟨96, (f68z1 x1), [(2, .cells 100 (f68z0)), (7, .cells 100 [.i (3 : Int), .i (0 : Int), .nils])], [], 0⟩ (an1 trivial) ?_
     refine kN ?_
     exact jN (3, (0 : Int), []) (Le.trans (Le.trans (Le.nilOwnC 7 2 6202 88 3 (encF eIIS q1dIIS []) rfl rfl rfl) (Le.mk (s' := ⟨96, (f68z1 x1), [(2, .cells 100 (f68z0)), (7, .cells 100 [.i (3 : Int), .i (0 : Int), .own 6202]), (6202, q1bIIS_88 [])], [], 0⟩) rfl rfl ⟨.refl _, .refl _, .refl _, .refl _, .refl _, .refl _, trivial⟩ ⟨⟨_, rfl, .refl _⟩, ⟨_, rfl, .refl _⟩, ⟨_, rfl, .refl _⟩, trivial⟩)) (Le.mk rfl rfl ⟨.refl _, .refl _, .refl _, .refl _, .refl _, .refl _, trivial⟩ ⟨⟨_, rfl, .refl _⟩, ⟨_, rfl, .refl _⟩, ⟨_, rfl, .refl _⟩, trivial⟩)) h
    ·
     replace h := ite_fb hc3 h
     refine AWp.block ?_
     refine AWp.loopL (α := Nat × (List (List UInt8) × (List Tq2))) (fun x => match x with | (_, l7, l8) => ⟨96, (f68z8 x1 l7), (f68z2 l8), [], 0⟩) (fun x => f68_L0 K1 x.1 x.2 = some r) (fun x => x.1) (FUEL, (r2.2.2.drop 1), []) (Le.trans (Le.trans (Le.nilOwnC 7 2 6202 88 3 (encF eIIS q1dIIS []) rfl rfl rfl) (Le.mk (s' := ⟨96, (f68z5 x1 r2), [(2, .cells 100 (f68z0)), (7, .cells 100 (f68z11)), (6202, q1bIIS_88 [])], [], 0⟩) rfl rfl ⟨.refl _, .refl _, .refl _, .refl _, .refl _, .refl _, .refl _, .refl _, trivial⟩ ⟨⟨_, rfl, .refl _⟩, ⟨_, rfl, .refl _⟩, ⟨_, rfl, .refl _⟩, trivial⟩)) (Le.mk (s' := ⟨96, [(0, .str x1), (2, .ptr 2 0), (7, .ptr 7 0), (8, q1aS (r2.2.2.drop 1)), (1000001, .tab .u64 Lib.pow10Tab), (1000002, errG), (1000003, errG)], [(2, .cells 100 (f68z0)), (7, .cells 100 (f68z11)), (6202, q1bIIS_88 [])], [], 0⟩) rfl rfl ⟨.refl _, .refl _, .refl _, .refl _, .refl _, .refl _, .refl _, trivial⟩ ⟨⟨_, rfl, .refl _⟩, ⟨_, rfl, .refl _⟩, ⟨_, rfl, .refl _⟩, trivial⟩)) h ?_
     rintro ⟨k0, l7, l8⟩ h
     cases k0 with
     | zero => exact nomatch (show (none : Option (Int × Int × (List Tq2) × Int)) = some r from h)
     | succ k0 =>
     obtain ⟨C0, hC0⟩ : ∃ C, C = f68_L0 K1 k0 := ⟨_, rfl⟩
     replace h := (f68_L0.eq_2 ..).symm.trans h
     try rw [← hC0] at h
     refine AWp.seq ?_
     refine q1rq [] [] ⟨96, [(0, .str x1), (2, .ptr 2 0), (7, .ptr 7 0), (8, q1aS l7), (32, .bool (decide ((lZ l7) ≥ (3 : Int)))), (1000001, .tab .u64 Lib.pow10Tab), (1000002, errG), (1000003, errG)], (f68z2 l8), [], 0⟩ trivial ?_
     refine AWp.cond (b := (decide ((lZ l7) ≥ (3 : Int)))) (by kernel_rfl) (fun hc4 => ?_) (fun hc4 => ?_)
     ·
      replace h := ite_tb hc4 h
      refine AWp.skip ?_
      refine tN ?_
      refine AWp.seq ?_
      refine AWp.block ?_
      refine AWp.seq ?_
      obtain ⟨r9, hr9, h⟩ := bind_ok h
      obtain ⟨ob10p, h⟩ := chk_some h
      have ob10 : 0 ≤ (0 : Int) ∧ (0 : Int) < (((l7).length : Nat) : Int) := ⟨by omega, ob10p⟩
      refine q1rr [] [(3, ⟨[.str (l7.getD 0 [])], [], [], [], .tup [.i r9.1, .ifc r9.2], [], [], [2, 3]⟩)] ⟨96, [(0, .str x1), (2, .ptr 2 0), (7, .ptr 7 0), (8, q1aS l7), (9, .i r9.1), (1000001, .tab .u64 Lib.pow10Tab), (1000002, errG), (1000003, errG)], (f68z2 l8), [], 0⟩ (an2 ob10 (cpT (f97_ok _ _ hr9))) ?_
      refine tN ?_
      refine AWp.seq ?_
      obtain ⟨r10, hr10, h⟩ := bind_ok h
      obtain ⟨ob11p, h⟩ := chk_some h
      have ob11 : 0 ≤ (1 : Int) ∧ (1 : Int) < (((l7).length : Nat) : Int) := ⟨by omega, ob11p⟩
      refine q1rr [] [(3, ⟨[.str (l7.getD 1 [])], [], [], [], .tup [.i r10.1, .ifc r10.2], [], [], [2, 3]⟩)] ⟨96, [(0, .str x1), (2, .ptr 2 0), (7, .ptr 7 0), (8, q1aS l7), (9, .i r9.1), (11, .i r10.1), (1000001, .tab .u64 Lib.pow10Tab), (1000002, errG), (1000003, errG)], (f68z2 l8), [], 0⟩ (an2 ob11 (cpT (f97_ok _ _ hr10))) ?_
      refine tN ?_
      obtain ⟨ob12p, h⟩ := chk_some h
      have ob12 : 0 ≤ (2 : Int) ∧ (2 : Int) < (((l7).length : Nat) : Int) := ⟨by omega, ob12p⟩
      obtain ⟨ob13, h⟩ := chk_some h
      refine q1rr [] [] ⟨96, (f68z8 x1 l7), [(2, .cells 100 (f68z0)), (7, .cells 100 (f68z11)), (6202, .rows 88 3 ((l8).length + 1) (appF (l8).length (encF eIIS q1dIIS l8) (lstF 3 [.i r9.1, .i r10.1, .str (l7.getD 2 [])])))], [], 0⟩ (an3 ob12 ob13 trivial) ?_
      refine kN ?_
      refine tN ?_
      refine AWp.le (Le.mk (s' := ⟨96, (f68z8 x1 l7), (f68z4 l8 r9 r10 l7), [], 0⟩) rfl rfl ⟨.refl _, .refl _, .refl _, .refl _, .refl _, .refl _, .refl _, trivial⟩ ⟨⟨_, rfl, .refl _⟩, ⟨_, rfl, .refl _⟩, ⟨_, rfl, (BLe.of (RL.app (RL.self _) (RL.lst (enc := eIIS) [(r9.1, r10.1, (l7.getD 2 []))] rfl rfl (fun _ => rfl))))⟩, trivial⟩) ?_
      obtain ⟨ob14p, h⟩ := chk_some h
      have ob14 : 0 ≤ (3 : Int) ∧ (3 : Int) ≤ (((l7).length : Nat) : Int) := ⟨by omega, ob14p⟩
      refine q1rr [] [] ⟨96, [(0, .str x1), (2, .ptr 2 0), (7, .ptr 7 0), (8, .arr 1 ((l7).length - 3) (fun i j => (encF eS [] l7) (i + 3) j)), (1000001, .tab .u64 Lib.pow10Tab), (1000002, errG), (1000003, errG)], (f68z4 l8 r9 r10 l7), [], 0⟩ (an1 ob14) ?_
      rw [hC0] at h
      exact lN (_, (l7.drop 3), (l8 ++ [(r9.1, r10.1, (l7.getD 2 []))])) (Le.trans (Le.mk (s' := ⟨96, [(0, .str x1), (2, .ptr 2 0), (7, .ptr 7 0), (8, q1aS (l7.drop 3)), (1000001, .tab .u64 Lib.pow10Tab), (1000002, errG), (1000003, errG)], (f68z4 l8 r9 r10 l7), [], 0⟩) rfl rfl ⟨.refl _, .refl _, .refl _, VLe.dropL, .refl _, .refl _, .refl _, trivial⟩ ⟨⟨_, rfl, .refl _⟩, ⟨_, rfl, .refl _⟩, ⟨_, rfl, .refl _⟩, trivial⟩) (Le.mk rfl rfl ⟨.refl _, .refl _, .refl _, .refl _, .refl _, .refl _, .refl _, trivial⟩ ⟨⟨_, rfl, .refl _⟩, ⟨_, rfl, .refl _⟩, ⟨_, rfl, .refl _⟩, trivial⟩)) h (Nat.lt_succ_self _)
     ·
      replace h := ite_fb hc4 h
      refine AWp.exit ?_
      refine tE ?_
      refine tE ?_
      refine kS ?_
      refine kN ?_
      exact jN (1, (0 : Int), l8) (Le.mk rfl rfl ⟨.refl _, .refl _, .refl _, .refl _, .refl _, .refl _, trivial⟩ ⟨⟨_, rfl, .refl _⟩, ⟨_, rfl, .refl _⟩, ⟨_, rfl, .refl _⟩, trivial⟩) h
  ·
   rintro ⟨n4, i5, l6⟩ h
   replace h := (congrFun hK1 _).symm.trans h
   refine AWp.seq ?_
   refine AWp.seq ?_
   obtain ⟨r11, hr11, h⟩ := bind_ok h
   obtain ⟨r12, hr12, h⟩ := optc_some h
   have ob15 := idA ((f68z12 r11) = true)
   have ob16 := idA ((f68z12 r11) = true)
   have ob17 := idA ((f68z12 r11) = true)
   have ob18 : true = true → (r11 != (0 : Int)) = false → (f68z12 r11) = true := fun _ h => beq_iff_eq.2 h
   refine q1rr [] [(1, ⟨[.agg (f68z10 n4 i5 l6)], [], [], [], .i r11, [], [6202], []⟩), (5, ⟨[.agg (f68z10 n4 i5 l6)], [], [], [], .str r12, [], [6202], [1]⟩)] ⟨96, [(2, .ptr 2 0), (7, .ptr 7 0), (93, .bool ((r11 != (0 : Int)) || (!(r12 == x1)))), (1000001, .tab .u64 Lib.pow10Tab), (1000002, errG), (1000003, errG)], [(2, .cells 100 (f68z0)), (7, .cells 100 (f68z9 n4 i5)), (6202, q1bIIS_88 l6)], [], 0⟩ (an4 (cpL (c := true) [(6202, q1bIIS_88 l6)] [6202] [.agg (f68z9 n4 i5)] (fun _ => (f98_ok _ _ _ _ hr11)) (fun _ => ⟨.refl _, trivial⟩) (.inr ⟨rfl, trivial⟩)) (And.intro (cpL [(6202, q1bIIS_88 l6)] [6202] [.agg (f68z9 n4 i5)] (fun hc => (f99_ok _ _ _ _ (hr12 hc))) (fun _ => ⟨.refl _, trivial⟩) (.inr ⟨rfl, trivial⟩)) (an1 ob15)) (an2 ob16 ob17) ob18) ?_
   refine tN ?_
   refine AWp.cond (b := ((r11 != (0 : Int)) || (!(r12 == x1)))) (by kernel_rfl) (fun hc5 => ?_) (fun hc5 => ?_)
   ·
    replace h := ite_tb hc5 h
    refine q1rq [] [] ⟨96, [(2, .ptr 2 0), (3, .i (2 : Int)), (1000001, .tab .u64 Lib.pow10Tab), (1000002, errG), (1000003, errG)], [(2, .cells 100 (f68z0))], [], 0⟩ (an1 trivial) ?_
    have hret := Option.some.inj h
    subst hret
    refine AWp.le (Le.mk (s' := ⟨96, [(2, .ptr 2 0), (3, .i (2 : Int))], [(2, .cells 100 [.i (0 : Int), .i (0 : Int), q1aIIS []])], [], 0⟩) rfl rfl ⟨.refl _, .refl _, trivial⟩ ⟨⟨_, rfl, (.cellsL ⟨.refl _, .refl _, .nilL, trivial⟩)⟩, trivial⟩) ?_
    refine AWp.ret ?_
    refine tR ?_
    exact bR _ rfl ⟨rfl, rfl⟩ rfl
   ·
    replace h := ite_fb hc5 h
    refine AWp.skip ?_
    refine tN ?_
    refine q1rq [] [] ⟨96, (f68z6), [(2, .cells 100 (f68z9 n4 i5)), (6202, q1bIIS_88 l6)], [], 0⟩ (an1 trivial) ?_
    refine AWp.le (Le.trans (Le.freeze 6202 rfl rfl) (Le.mk (s' := ⟨96, (f68z6), [(2, .cells 100 (f68z10 n4 i5 l6))], [], 0⟩) rfl rfl ⟨.refl _, .refl _, .refl _, .refl _, .refl _, trivial⟩ ⟨⟨_, rfl, .refl _⟩, trivial⟩)) ?_
    have hret := Option.some.inj h
    subst hret
    refine AWp.le (Le.mk (s' := ⟨96, [(2, .ptr 2 0), (3, .i (0 : Int))], [(2, .cells 100 (f68z10 n4 i5 l6))], [], 0⟩) rfl rfl ⟨.refl _, .refl _, trivial⟩ ⟨⟨_, rfl, .refl _⟩, trivial⟩) ?_
    refine AWp.ret ?_
    exact bR _ rfl ⟨rfl, rfl⟩ rfl
def f122_L0 (x1 : List Tq2) (x2 : Int) (x3 : Int) (x4 : List UInt8) (K1 : Unit → Option Int) : Nat → Nat → Option Int
 | 0, _ => none
 | k + 1, n5 =>
  if (decide ((n5 : Int) < (((x1).length : Nat) : Int))) then (
  chk ((n5 : Int) < (((x1).length : Nat) : Int)) <|
  if ((x2 == (x1.getD n5 (default : Tq2)).1) && ((x3 == (x1.getD n5 (default : Tq2)).2.1) && ((x4 == ((x1.getD n5 (default : Tq2)).2.2)) && true))) then (
  some (n5 : Int)
  ) else (
  chk (((n5 : Int) + (1 : Int)) ≤ 9223372036854775807) <|
  (f122_L0 x1 x2 x3 x4 K1 k) (n5 + 1)
  )
  ) else (
  K1 ()
  )
abbrev f122z0 (x2 : Int) (x3 : Int) (x4 : List UInt8) : Heap := [(3, .cells 88 [.int .i64 x2, .int .i64 x3, .str x4])]
abbrev f122z1 (x1 : List Tq2) (n5 : Nat) := (x1.getD n5 (default : Tq2))
def f122 (x1 : List Tq2) (x2 : Int) (x3 : Int) (x4 : List UInt8) : Option Int :=
 jn (fun (_ : Unit) =>
 some (-1 : Int)
 ) fun (K1 : Unit → Option Int) =>
 f122_L0 x1 x2 x3 x4 K1 FUEL 0
theorem f122_ok  (x1 : List Tq2) (x2 : Int) (x3 : Int) (x4 : List UInt8) (r : Int) (h : f122 x1 x2 x3 x4 = some r)  : Spec1 Tryz.prog 122 [] [] [] [vL 3 eIIS (default : Tq2) x1, .agg [.int .i64 x2, .int .i64 x3, .str x4]] (.int .i64 r) [] := by
 unfold f122 at h
 refine Spec1.body 0 _ _ Tryz.func122 rfl Tryz.ntmps122 rfl rfl ?_
 refine q1rq [] [] ⟨19, [(0, q1aIIS x1), (3, .ptr 3 0)], (f122z0 x2 x3 x4), [], 0⟩ trivial ?_
 obtain ⟨K1, hK1, h⟩ := jn_some h
 refine AWp.join (α := Unit) (fun (x : Unit) => match x with | () => ⟨19, [], [], [], 0⟩) (fun x => K1 x = some r) ?_ ?_
 ·
  refine q1rq [] [] ⟨19, [(0, q1aIIS x1), (3, .ptr 3 0), (7, .i (lZ x1)), (8, .i (0 : Int))], (f122z0 x2 x3 x4), [], 0⟩ trivial ?_
  refine AWp.block ?_
  refine AWp.loopL (α := Nat × Nat) (fun x => match x with | (_, n5) => ⟨19, [(0, q1aIIS x1), (3, .ptr 3 0), (7, .i (lZ x1)), (8, .i (n5 : Int))], (f122z0 x2 x3 x4), [], 0⟩) (fun x => f122_L0 x1 x2 x3 x4 K1 x.1 x.2 = some r) (fun x => x.1) (FUEL, 0) (Le.mk (s' := ⟨19, [(0, q1aIIS x1), (3, .ptr 3 0), (7, .i (lZ x1)), (8, .i (0 : Int))], (f122z0 x2 x3 x4), [], 0⟩) rfl rfl ⟨.refl _, .refl _, .refl _, .refl _, trivial⟩ ⟨⟨_, rfl, .refl _⟩, trivial⟩) h ?_
  rintro ⟨k0, n5⟩ h
  cases k0 with
  | zero => exact nomatch (show (none : Option Int) = some r from h)
  | succ k0 =>
  obtain ⟨C0, hC0⟩ : ∃ C, C = f122_L0 x1 x2 x3 x4 K1 k0 := ⟨_, rfl⟩
  replace h := (f122_L0.eq_2 ..).symm.trans h
  try rw [← hC0] at h
  refine q1rq [] [] ⟨19, [(0, q1aIIS x1), (3, .ptr 3 0), (7, .i (lZ x1)), (8, .i (n5 : Int)), (9, .bool (decide ((n5 : Int) < (lZ x1))))], (f122z0 x2 x3 x4), [], 0⟩ trivial ?_
  refine AWp.seq ?_
  refine AWp.cond (b := (decide ((n5 : Int) < (lZ x1)))) (by kernel_rfl) (fun hc1 => ?_) (fun hc1 => ?_)
  ·
   replace h := ite_tb hc1 h
   refine AWp.skip ?_
   refine tN ?_
   refine AWp.seq ?_
   refine AWp.block ?_
   refine q1rq [] [] ⟨19, [(0, q1aIIS x1), (3, .ptr 3 0), (5, .i (n5 : Int)), (7, .i (lZ x1)), (8, .i (n5 : Int))], (f122z0 x2 x3 x4), [], 0⟩ trivial ?_
   refine AWp.seq ?_
   obtain ⟨ob0p, h⟩ := chk_some h
   have ob0 : 0 ≤ (n5 : Int) ∧ (n5 : Int) < (((x1).length : Nat) : Int) := ⟨by omega, ob0p⟩
   refine q1rr [] [] ⟨19, [(0, q1aIIS x1), (3, .ptr 3 0), (5, .i (n5 : Int)), (7, .i (lZ x1)), (8, .i (n5 : Int)), (16, .bool ((x2 == (f122z1 x1 n5).1) && ((x3 == (f122z1 x1 n5).2.1) && ((x4 == ((f122z1 x1 n5).2.2)) && true))))], (f122z0 x2 x3 x4), [], 0⟩ (an1 ob0) ?_
   refine tN ?_
   refine AWp.cond (b := ((x2 == (f122z1 x1 n5).1) && ((x3 == (f122z1 x1 n5).2.1) && ((x4 == ((f122z1 x1 n5).2.2)) && true)))) (by kernel_rfl) (fun hc2 => ?_) (fun hc2 => ?_)
   ·
    replace h := ite_tb hc2 h
    refine q1rq [] [] ⟨19, [(4, .i (n5 : Int))], [], [], 0⟩ trivial ?_
    have hret := Option.some.inj h
    subst hret
    refine AWp.le (Le.mk (s' := ⟨19, [(4, .i (n5 : Int))], [], [], 0⟩) rfl rfl ⟨.refl _, trivial⟩ trivial) ?_
    refine AWp.ret ?_
    refine kR ?_
    refine tR ?_
    refine tR ?_
    refine kR ?_
    refine joinQ_ret ?_
    exact bR _ rfl ⟨rfl, rfl⟩ rfl
   ·
    replace h := ite_fb hc2 h
    refine AWp.skip ?_
    refine kN ?_
    refine tN ?_
    obtain ⟨ob1p, h⟩ := chk_some h
    have ob1 : -9223372036854775808 ≤ ((n5 : Int) + (1 : Int)) ∧ ((n5 : Int) + (1 : Int)) ≤ 9223372036854775807 := ⟨by omega, ob1p⟩
    refine q1rr [] [] ⟨19, [(0, q1aIIS x1), (3, .ptr 3 0), (7, .i (lZ x1)), (8, .i (((n5 + 1) : Nat) : Int))], (f122z0 x2 x3 x4), [], 0⟩ (an1 ob1) ?_
    rw [hC0] at h
    exact lN (_, (n5 + 1)) (Le.mk rfl rfl ⟨.refl _, .refl _, .refl _, .refl _, trivial⟩ ⟨⟨_, rfl, .refl _⟩, trivial⟩) h (Nat.lt_succ_self _)
  ·
   replace h := ite_fb hc1 h
   refine AWp.exit ?_
   refine tE ?_
   refine tE ?_
   refine kS ?_
   exact jN () (Le.mk rfl rfl trivial trivial) h
 ·
  rintro ⟨⟩ h
  replace h := (congrFun hK1 _).symm.trans h
  refine q1rq [] [] ⟨19, [(4, .i (-1 : Int))], [], [], 0⟩ trivial ?_
  have hret := Option.some.inj h
  subst hret
  refine AWp.le (Le.mk (s' := ⟨19, [(4, .i (-1 : Int))], [], [], 0⟩) rfl rfl ⟨.refl _, trivial⟩ trivial) ?_
  refine AWp.ret ?_
  exact bR _ rfl ⟨rfl, rfl⟩ rfl
def f89 (x1 : List Tq2) (x2 : Int) (x3 : Int) (x4 : List UInt8) : Option Bool :=
 (f122 x1 x2 x3 x4).bind fun (r5 : Int) =>
 some (decide (r5 ≥ (0 : Int)))
theorem f89_ok  (x1 : List Tq2) (x2 : Int) (x3 : Int) (x4 : List UInt8) (r : Bool) (h : f89 x1 x2 x3 x4 = some r)  : Spec1 Tryz.prog 89 [] [] [] [vL 3 eIIS (default : Tq2) x1, .agg [.int .i64 x2, .int .i64 x3, .str x4]] (.bool r) [] := by
 unfold f89 at h
 refine Spec1.body 0 _ _ Tryz.func89 rfl Tryz.ntmps89 rfl rfl ?_
 refine q1rq [] [] ⟨9, [(0, q1aIIS x1), (3, .ptr 3 0)], [(3, .cells 88 [.i x2, .i x3, .str x4])], [], 0⟩ trivial ?_
 refine AWp.seq ?_
 obtain ⟨r5, hr5, h⟩ := bind_ok h
 refine q1rr [] [(2, ⟨[q1aIIS x1, .agg [.i x2, .i x3, .str x4]], [], [], [], .i r5, [], [], []⟩)] ⟨9, [(4, .bool (decide (r5 ≥ (0 : Int))))], [], [], 0⟩ (an1 (cpT (f122_ok _ _ _ _ _ hr5))) ?_
 refine tN ?_
 have hret := Option.some.inj h
 subst hret
 refine AWp.le (Le.mk (s' := ⟨9, [(4, .bool (decide (r5 ≥ (0 : Int))))], [], [], 0⟩) rfl rfl ⟨.refl _, trivial⟩ trivial) ?_
 refine AWp.ret ?_
 exact bR _ rfl ⟨rfl, rfl⟩ rfl
def f66_L0 (x3 : Int) (x4 : Int) (x8 : List Tq4) (x9 : List Tq3) (x10 : List (Tq0 × List UInt8)) (x11 : List Tq0) (x12 : List (Tq0 × List UInt8)) (x13 : List (Tq2 × Bool)) (x14 : List (Tq0 × Bool)) (K1 : (List (List UInt8)) → Option (Bool × (List Tq4) × (List Tq3) × (List (Tq0 × List UInt8)) × (List Tq0) × (List (Tq0 × List UInt8)) × (List (Tq2 × Bool)) × (List (Tq0 × Bool)))) : Nat → (Nat × List (List UInt8)) → Option (Bool × (List Tq4) × (List Tq3) × (List (Tq0 × List UInt8)) × (List Tq0) × (List (Tq0 × List UInt8)) × (List (Tq2 × Bool)) × (List (Tq0 × Bool)))
 | 0, _ => none
 | k + 1, (n17, l18) =>
  if (decide ((n17 : Int) < x4)) then (
  if (!(hM x10 (((12 : Int) + x3), (n17 : Int)))) then (
  some (false, x8, x9, x10, x11, x12, x13, x14)
  ) else (
  chk (((l18).length + 1) * 16 ≤ 140737488355328) <|
  chk (((n17 : Int) + (1 : Int)) ≤ 9223372036854775807) <|
  (f66_L0 x3 x4 x8 x9 x10 x11 x12 x13 x14 K1 k) ((n17 + 1), (l18 ++ [(gM x10 [] (((12 : Int) + x3), (n17 : Int)))]))
  )
  ) else (
  K1 l18
  )
abbrev f66z0 (x1 : Int) (x2 : Int) (x3 : Int) (x4 : Int) (x5 : Int) (x6 : List UInt8) (x7 : List UInt8) : List V := [.int .i64 x1, .int .i64 x2, .int .i64 x3, .int .i64 x4, .int .i64 x5, .str x6, .str x7, .opq, .opq, .opq, .opq, .opq, .opq, .opq, .opq, .opq, .opq, .opq, .opq, .opq, .opq, .opq, .opq, .opq, .opq, .opq, .opq, .opq]
abbrev f66z1 (x1 : Int) (x2 : Int) (x3 : Int) (x4 : Int) (x5 : Int) (x6 : List UInt8) (x7 : List UInt8) (x8 : List Tq4) (x9 : List Tq3) (x10 : List (Tq0 × List UInt8)) (x11 : List Tq0) (x12 : List (Tq0 × List UInt8)) (x13 : List (Tq2 × Bool)) (x14 : List (Tq0 × Bool)) (l18 : List (List UInt8)) : Heap := [(3, .cells 51 (f66z0 x1 x2 x3 x4 x5 x6 x7)), (2000, .cells 115 [.own 2001, .own 2002, .own 2003, .own 2004, .own 2005, .own 2006, .own 2007]), (2001, bP (V.int .i64) 0 m108 [] x8), (2002, bP (V.int .i64) 0 m109 false x9), (2003, bP mk110E (default : Tq0) m110 [] x10), (2004, bP (V.int .i64) 0 m111 0 x11), (2005, bP mk110E (default : Tq0) m110 [] x12), (2006, bP mk112E (default : Tq2) m112 false x13), (2007, bP mk113E (default : Tq0) m113 false x14), (5013, bL 9 1 eS [] l18)]
abbrev f66z2 (x1 : Int) (x2 : Int) (x3 : Int) (x4 : Int) (x5 : Int) (x6 : List UInt8) (x7 : List UInt8) (x8 : List Tq4) (x9 : List Tq3) (x10 : List (Tq0 × List UInt8)) (x11 : List Tq0) (x12 : List (Tq0 × List UInt8)) (x13 : List (Tq2 × Bool)) (x14 : List (Tq0 × Bool)) : Heap := [(3, .cells 51 (f66z0 x1 x2 x3 x4 x5 x6 x7)), (2000, .cells 115 [.own 2001, .own 2002, .own 2003, .own 2004, .own 2005, .own 2006, .own 2007]), (2001, bP (V.int .i64) 0 m108 [] x8), (2002, bP (V.int .i64) 0 m109 false x9), (2003, bP mk110E (default : Tq0) m110 [] x10), (2004, bP (V.int .i64) 0 m111 0 x11), (2005, bP mk110E (default : Tq0) m110 [] x12), (2006, bP mk112E (default : Tq2) m112 false x13), (2007, bP mk113E (default : Tq0) m113 false x14)]
abbrev f66z3 : List V := [.own 2001, .own 2002, .own 2003, .own 2004, .own 2005, .own 2006, .own 2007]
abbrev f66z4 (x8 : List Tq4) (x9 : List Tq3) (x10 : List (Tq0 × List UInt8)) (x11 : List Tq0) (x12 : List (Tq0 × List UInt8)) (x13 : List (Tq2 × Bool)) (x14 : List (Tq0 × Bool)) : Heap := [(2000, .cells 115 (f66z3)), (2001, bP (V.int .i64) 0 m108 [] x8), (2002, bP (V.int .i64) 0 m109 false x9), (2003, bP mk110E (default : Tq0) m110 [] x10), (2004, bP (V.int .i64) 0 m111 0 x11), (2005, bP mk110E (default : Tq0) m110 [] x12), (2006, bP mk112E (default : Tq2) m112 false x13), (2007, bP mk113E (default : Tq0) m113 false x14)]
abbrev f66z5 (x14 : List (Tq0 × Bool)) (x3 : Int) (x5 : Int) (x12 : List (Tq0 × List UInt8)) := ((gM x14 false (x3, x5)) || (!(hM x12 (x3, x5))))
abbrev f66z6 (x1 : Int) (x2 : Int) (x3 : Int) (x4 : Int) (x5 : Int) (x6 : List UInt8) (x7 : List UInt8) (x8 : List Tq4) (x9 : List Tq3) (x10 : List (Tq0 × List UInt8)) (x11 : List Tq0) (x12 : List (Tq0 × List UInt8)) (x13 : List (Tq2 × Bool)) (x14 : List (Tq0 × Bool)) (l18 : List (List UInt8)) (n17 : Nat) : Heap := [(3, .cells 51 (f66z0 x1 x2 x3 x4 x5 x6 x7)), (2000, .cells 115 (f66z3)), (2001, bP (V.int .i64) 0 m108 [] x8), (2002, bP (V.int .i64) 0 m109 false x9), (2003, bP mk110E (default : Tq0) m110 [] x10), (2004, bP (V.int .i64) 0 m111 0 x11), (2005, bP mk110E (default : Tq0) m110 [] x12), (2006, bP mk112E (default : Tq2) m112 false x13), (2007, bP mk113E (default : Tq0) m113 false x14), (5013, bL 9 1 eS [] (l18 ++ [(gM x10 [] (((12 : Int) + x3), (n17 : Int)))]))]
abbrev f66z7 (x1 : Int) (x2 : Int) (x3 : Int) (x4 : Int) (x5 : Int) (x6 : List UInt8) (x7 : List UInt8) (x8 : List Tq4) (x9 : List Tq3) (x10 : List (Tq0 × List UInt8)) (x11 : List Tq0) (x12 : List (Tq0 × List UInt8)) (x13 : List (Tq2 × Bool)) (x14 : List (Tq0 × Bool)) : Heap := [(3, .cells 51 (f66z0 x1 x2 x3 x4 x5 x6 x7)), (5, .cells 145 [.int .i64 x3, .int .i64 x5]), (2000, .cells 115 (f66z3)), (2001, bP (V.int .i64) 0 m108 [] x8), (2002, bP (V.int .i64) 0 m109 false x9), (2003, bP mk110E (default : Tq0) m110 [] x10), (2004, bP (V.int .i64) 0 m111 0 x11), (2005, bP mk110E (default : Tq0) m110 [] x12), (2006, bP mk112E (default : Tq2) m112 false x13), (2007, bP mk113E (default : Tq0) m113 false x14)]
abbrev f66z8 (x3 : Int) (x10 : List (Tq0 × List UInt8)) (x4 : Int) (n17 : Nat) : List (Nat × V) := [(0, .ptr 2000 0), (3, .ptr 3 0), (6, .int .i64 ((12 : Int) + x3)), (9, .str (gM x10 [] (((12 : Int) + x3), x4))), (13, .own 5013), (85, .int .i64 x4), (86, .int .i64 (n17 : Int)), (1000001, .tab .u64 Lib.pow10Tab), (1000002, errG), (1000003, errG)]
abbrev f66z9 (r15 : Int × Int × (List Tq2) × Int) := (r15.2.2.2 != (0 : Int))
def f66 (x1 : Int) (x2 : Int) (x3 : Int) (x4 : Int) (x5 : Int) (x6 : List UInt8) (x7 : List UInt8) (x8 : List Tq4) (x9 : List Tq3) (x10 : List (Tq0 × List UInt8)) (x11 : List Tq0) (x12 : List (Tq0 × List UInt8)) (x13 : List (Tq2 × Bool)) (x14 : List (Tq0 × Bool)) : Option (Bool × (List Tq4) × (List Tq3) × (List (Tq0 × List UInt8)) × (List Tq0) × (List (Tq0 × List UInt8)) × (List (Tq2 × Bool)) × (List (Tq0 × Bool))) :=
 chk (-9223372036854775808 ≤ ((12 : Int) + x3) ∧ ((12 : Int) + x3) ≤ 9223372036854775807) <|
 (f68 (gM x10 [] (((12 : Int) + x3), x4))).bind fun (r15 : Int × Int × (List Tq2) × Int) =>
 optc (((((gM x14 false (x3, x5)) || (!(hM x12 (x3, x5)))) || (!(hM x10 (((12 : Int) + x3), x4)))) || (r15.2.2.2 != (0 : Int))) == false) (f89 r15.2.2.1 x3 x5 (gM x12 [] (x3, x5))) fun (r16 : Bool) =>
 if (((((gM x14 false (x3, x5)) || (!(hM x12 (x3, x5)))) || (!(hM x10 (((12 : Int) + x3), x4)))) || (r15.2.2.2 != (0 : Int))) || (!r16)) then (
 some (false, x8, x9, x10, x11, x12, x13, x14)
 ) else (
 jn (fun (l19 : List (List UInt8)) =>
 none
 ) fun (K1 : (List (List UInt8)) → Option (Bool × (List Tq4) × (List Tq3) × (List (Tq0 × List UInt8)) × (List Tq0) × (List (Tq0 × List UInt8)) × (List (Tq2 × Bool)) × (List (Tq0 × Bool)))) =>
 f66_L0 x3 x4 x8 x9 x10 x11 x12 x13 x14 K1 FUEL (0, [])
 )
theorem f66_ok  (x1 : Int) (x2 : Int) (x3 : Int) (x4 : Int) (x5 : Int) (x6 : List UInt8) (x7 : List UInt8) (x8 : List Tq4) (x9 : List Tq3) (x10 : List (Tq0 × List UInt8)) (x11 : List Tq0) (x12 : List (Tq0 × List UInt8)) (x13 : List (Tq2 × Bool)) (x14 : List (Tq0 × Bool)) (r : Bool × (List Tq4) × (List Tq3) × (List (Tq0 × List UInt8)) × (List Tq0) × (List (Tq0 × List UInt8)) × (List (Tq2 × Bool)) × (List (Tq0 × Bool))) (h : f66 x1 x2 x3 x4 x5 x6 x7 x8 x9 x10 x11 x12 x13 x14 = some r)  : Spec1 Tryz.prog 66 [(1, .tab .u64 Lib.pow10Tab), (2, errG), (3, errG)] [2000] [(2000, .cells 115 [.own 2001, .own 2002, .own 2003, .own 2004, .own 2005, .own 2006, .own 2007]), (2001, bP (V.int .i64) 0 m108 [] x8), (2002, bP (V.int .i64) 0 m109 false x9), (2003, bP mk110E (default : Tq0) m110 [] x10), (2004, bP (V.int .i64) 0 m111 0 x11), (2005, bP mk110E (default : Tq0) m110 [] x12), (2006, bP mk112E (default : Tq2) m112 false x13), (2007, bP mk113E (default : Tq0) m113 false x14)] [.ptr 2000 0, .agg [.int .i64 x1, .int .i64 x2, .int .i64 x3, .int .i64 x4, .int .i64 x5, .str x6, .str x7, .opq, .opq, .opq, .opq, .opq, .opq, .opq, .opq, .opq, .opq, .opq, .opq, .opq, .opq, .opq, .opq, .opq, .opq, .opq, .opq, .opq]] (.bool r.1) [(2000, .cells 115 [.own 2001, .own 2002, .own 2003, .own 2004, .own 2005, .own 2006, .own 2007]), (2001, bP (V.int .i64) 0 m108 [] r.2.1), (2002, bP (V.int .i64) 0 m109 false r.2.2.1), (2003, bP mk110E (default : Tq0) m110 [] r.2.2.2.1), (2004, bP (V.int .i64) 0 m111 0 r.2.2.2.2.1), (2005, bP mk110E (default : Tq0) m110 [] r.2.2.2.2.2.1), (2006, bP mk112E (default : Tq2) m112 false r.2.2.2.2.2.2.1), (2007, bP mk113E (default : Tq0) m113 false r.2.2.2.2.2.2.2)] := by
 unfold f66 at h
 refine Spec1.body 0 _ _ Tryz.func66 rfl Tryz.ntmps66 rfl rfl ?_
 refine q1rq [] [] ⟨129, [(0, .ptr 2000 0), (3, .ptr 3 0), (1000001, .tab .u64 Lib.pow10Tab), (1000002, errG), (1000003, errG)], (f66z2 x1 x2 x3 x4 x5 x6 x7 x8 x9 x10 x11 x12 x13 x14), [2000], 0⟩ trivial ?_
 refine AWp.seq ?_
 obtain ⟨ob0, h⟩ := chk_some h
 refine q1rr [] [] ⟨129, [(0, .ptr 2000 0), (3, .ptr 3 0), (5, .ptr 5 0), (6, .i ((12 : Int) + x3)), (1000001, .tab .u64 Lib.pow10Tab), (1000002, errG), (1000003, errG)], (f66z7 x1 x2 x3 x4 x5 x6 x7 x8 x9 x10 x11 x12 x13 x14), [2000], 0⟩ (an2 ob0 trivial) ?_
 refine tN ?_
 refine q1rq [] [(5, ⟨[.own 2005, .agg [.i x3, .i x5]], [2005], [2005], [(2005, bP mk110E q1dII m110 [] x12)], .tup [.str (gM x12 [] (x3, x5)), .bool (hM x12 (x3, x5))], [], [], []⟩)] ⟨129, [(0, .ptr 2000 0), (3, .ptr 3 0), (5, .ptr 5 0), (6, .i ((12 : Int) + x3)), (7, .str (gM x12 [] (x3, x5))), (8, .bool (hM x12 (x3, x5))), (1000001, .tab .u64 Lib.pow10Tab), (1000002, errG), (1000003, errG)], (f66z7 x1 x2 x3 x4 x5 x6 x7 x8 x9 x10 x11 x12 x13 x14), [2000], 0⟩ (an1 (And.intro (lookP_spec (P := Tryz.prog) Tryz.underlying110 mk110E kE110 q1dII m110 [] [] (by kernel_rfl) (.tmp 32) (.tmp 33) 118 2005 x12 (x3, x5)) (VLes.same [.own 2005, .agg [.i x3, .i x5]]))) ?_
 refine q1rq [] [(8, ⟨[.own 2003, .agg [.i ((12 : Int) + x3), .i x4]], [2003], [2003], [(2003, bP mk110E q1dII m110 [] x10)], .tup [.str (gM x10 [] (((12 : Int) + x3), x4)), .bool (hM x10 (((12 : Int) + x3), x4))], [], [], []⟩)] ⟨129, [(0, .ptr 2000 0), (3, .ptr 3 0), (5, .ptr 5 0), (6, .i ((12 : Int) + x3)), (7, .str (gM x12 [] (x3, x5))), (8, .bool (hM x12 (x3, x5))), (9, .str (gM x10 [] (((12 : Int) + x3), x4))), (10, .bool (hM x10 (((12 : Int) + x3), x4))), (1000001, .tab .u64 Lib.pow10Tab), (1000002, errG), (1000003, errG)], (f66z7 x1 x2 x3 x4 x5 x6 x7 x8 x9 x10 x11 x12 x13 x14), [2000], 0⟩ (an1 (And.intro (lookP_spec (P := Tryz.prog) Tryz.underlying110 mk110E kE110 q1dII m110 [] [] (by kernel_rfl) (.tmp 41) (.tmp 45) 118 2003 x10 (((12 : Int) + x3), x4)) (VLes.same [.own 2003, .agg [.i ((12 : Int) + x3), .i x4]]))) ?_
 refine AWp.seq ?_
 obtain ⟨r15, hr15, h⟩ := bind_ok h
 refine q1rr [] [(1, ⟨[.str (gM x10 [] (((12 : Int) + x3), x4))], [], [], [], .tup [.agg [.i r15.1, .i r15.2.1, q1aIIS r15.2.2.1], .i r15.2.2.2], [], [], [1, 2, 3]⟩)] ⟨129, [(0, .ptr 2000 0), (3, .ptr 3 0), (5, .ptr 5 0), (6, .i ((12 : Int) + x3)), (7, .str (gM x12 [] (x3, x5))), (8, .bool (hM x12 (x3, x5))), (9, .str (gM x10 [] (((12 : Int) + x3), x4))), (10, .bool (hM x10 (((12 : Int) + x3), x4))), (11, .ptr 11 0), (12, .i r15.2.2.2), (1000001, .tab .u64 Lib.pow10Tab), (1000002, errG), (1000003, errG)], [(3, .cells 51 (f66z0 x1 x2 x3 x4 x5 x6 x7)), (5, .cells 145 [.i x3, .i x5]), (11, .cells 100 [.i r15.1, .i r15.2.1, q1aIIS r15.2.2.1]), (2000, .cells 115 (f66z3)), (2001, bP (V.int .i64) 0 m108 [] x8), (2002, bP (V.int .i64) 0 m109 false x9), (2003, bP mk110E q1dII m110 [] x10), (2004, bP (V.int .i64) 0 m111 0 x11), (2005, bP mk110E q1dII m110 [] x12), (2006, bP mk112E q1dIIS m112 false x13), (2007, bP mk113E q1dII m113 false x14)], [2000], 0⟩ (an2 (cpT (f68_ok _ _ hr15)) trivial) ?_
 refine tN ?_
 refine AWp.seq ?_
 refine AWp.seq ?_
 obtain ⟨r16, hr16, h⟩ := optc_some h
 have ob1 := idA (((gM x14 false (x3, x5)) == false) = true)
 have ob2 := bqA (gM x14 false (x3, x5)) false
 have ob3 := idA (((f66z5 x14 x3 x5 x12) == false) = true)
 have ob4 := bqA (f66z5 x14 x3 x5 x12) false
 have ob5 := idA ((((f66z5 x14 x3 x5 x12) || (!(hM x10 (((12 : Int) + x3), x4)))) == false) = true)
 have ob6 := bqA ((f66z5 x14 x3 x5 x12) || (!(hM x10 (((12 : Int) + x3), x4)))) false
 have ob7 := idA (((((f66z5 x14 x3 x5 x12) || (!(hM x10 (((12 : Int) + x3), x4)))) || (f66z9 r15)) == false) = true)
 have ob8 := idA (((((f66z5 x14 x3 x5 x12) || (!(hM x10 (((12 : Int) + x3), x4)))) || (f66z9 r15)) == false) = true)
 have ob9 := idA (((((f66z5 x14 x3 x5 x12) || (!(hM x10 (((12 : Int) + x3), x4)))) || (f66z9 r15)) == false) = true)
 have ob10 := idA (((((f66z5 x14 x3 x5 x12) || (!(hM x10 (((12 : Int) + x3), x4)))) || (f66z9 r15)) == false) = true)
 have ob11 := idA (((((f66z5 x14 x3 x5 x12) || (!(hM x10 (((12 : Int) + x3), x4)))) || (f66z9 r15)) == false) = true)
 have ob12 := idA (((((f66z5 x14 x3 x5 x12) || (!(hM x10 (((12 : Int) + x3), x4)))) || (f66z9 r15)) == false) = true)
 have ob13 := idA (((((f66z5 x14 x3 x5 x12) || (!(hM x10 (((12 : Int) + x3), x4)))) || (f66z9 r15)) == false) = true)
 have ob14 := idA (((((f66z5 x14 x3 x5 x12) || (!(hM x10 (((12 : Int) + x3), x4)))) || (f66z9 r15)) == false) = true)
 have ob15 := idA (((((f66z5 x14 x3 x5 x12) || (!(hM x10 (((12 : Int) + x3), x4)))) || (f66z9 r15)) == false) = true)
 have ob16 := bqA (((f66z5 x14 x3 x5 x12) || (!(hM x10 (((12 : Int) + x3), x4)))) || (f66z9 r15)) false
 refine q1rr [] [(5, ⟨[.own 2007, .agg [.i x3, .i x5]], [2007], [2007], [(2007, bP mk113E q1dII m113 false x14)], .bool (gM x14 false (x3, x5)), [], [], []⟩), (27, ⟨[q1aIIS r15.2.2.1, .agg [.i x3, .i x5, .str (gM x12 [] (x3, x5))]], [], [], [], .bool r16, [], [], []⟩)] ⟨129, [(0, .ptr 2000 0), (3, .ptr 3 0), (6, .i ((12 : Int) + x3)), (9, .str (gM x10 [] (((12 : Int) + x3), x4))), (83, .bool ((((f66z5 x14 x3 x5 x12) || (!(hM x10 (((12 : Int) + x3), x4)))) || (f66z9 r15)) || (!r16))), (1000001, .tab .u64 Lib.pow10Tab), (1000002, errG), (1000003, errG)], (f66z2 x1 x2 x3 x4 x5 x6 x7 x8 x9 x10 x11 x12 x13 x14), [2000], 0⟩ (ac6 (And.intro (lookP1_spec (P := Tryz.prog) Tryz.underlying113 mk113E kE113 q1dII m113 false false (by kernel_rfl) (.tmp 57) (.tmp 58) 4 2007 x14 (x3, x5)) (VLes.same [.own 2007, .agg [.i x3, .i x5]])) (an1 ob1) ob2 (an1 ob3) ob4 (an1 ob5) (ac6 ob6 (an1 ob7) (an1 ob8) (an1 ob9) (an3 ob10 ob11 ob12) (And.intro (cpC fun hc => (f89_ok _ _ _ _ _ (hr16 hc))) (an2 ob13 ob14)) (an2 (an1 ob15) ob16))) ?_
 refine tN ?_
 refine AWp.cond (b := ((((f66z5 x14 x3 x5 x12) || (!(hM x10 (((12 : Int) + x3), x4)))) || (f66z9 r15)) || (!r16))) (by kernel_rfl) (fun hc1 => ?_) (fun hc1 => ?_)
 ·
  replace h := ite_tb hc1 h
  refine q1rq [] [] ⟨129, [(4, .bool false), (1000001, .tab .u64 Lib.pow10Tab), (1000002, errG), (1000003, errG)], (f66z4 x8 x9 x10 x11 x12 x13 x14), [2000], 0⟩ trivial ?_
  have hret := Option.some.inj h
  subst hret
  refine AWp.le (Le.mk (s' := ⟨129, [(4, .bool false)], (f66z4 x8 x9 x10 x11 x12 x13 x14), [2000], 0⟩) rfl rfl ⟨.refl _, trivial⟩ ⟨⟨_, rfl, .refl _⟩, ⟨_, rfl, .refl _⟩, ⟨_, rfl, .refl _⟩, ⟨_, rfl, .refl _⟩, ⟨_, rfl, .refl _⟩, ⟨_, rfl, .refl _⟩, ⟨_, rfl, .refl _⟩, ⟨_, rfl, .refl _⟩, trivial⟩) ?_
  refine AWp.ret ?_
  refine tR ?_
  exact bR _ rfl ⟨rfl, rfl⟩ rfl
 ·
  replace h := ite_fb hc1 h
  refine AWp.skip ?_
  refine tN ?_
  refine q1rq [] [] ⟨129, [(0, .ptr 2000 0), (3, .ptr 3 0), (6, .i ((12 : Int) + x3)), (9, .str (gM x10 [] (((12 : Int) + x3), x4))), (13, .nils), (1000001, .tab .u64 Lib.pow10Tab), (1000002, errG), (1000003, errG)], (f66z2 x1 x2 x3 x4 x5 x6 x7 x8 x9 x10 x11 x12 x13 x14), [2000], 0⟩ trivial ?_
  obtain ⟨K1, hK1, h⟩ := jn_some h
  refine AWp.join (α := List (List UInt8)) (fun (l19 : List (List UInt8)) => ⟨129, [(3, .ptr 3 0), (9, .str (gM x10 [] (((12 : Int) + x3), x4))), (13, .own 5013), (1000001, .tab .u64 Lib.pow10Tab), (1000002, errG), (1000003, errG)], [(3, .cells 51 (f66z0 x1 x2 x3 x4 x5 x6 x7)), (2000, .cells 115 (f66z3)), (2001, bP (V.int .i64) 0 m108 [] x8), (2002, bP (V.int .i64) 0 m109 false x9), (2003, bP mk110E q1dII m110 [] x10), (2004, bP (V.int .i64) 0 m111 0 x11), (2005, bP mk110E q1dII m110 [] x12), (2006, bP mk112E q1dIIS m112 false x13), (2007, bP mk113E q1dII m113 false x14), (5013, q1bS_9 l19)], [2000], 0⟩) (fun x => K1 x = some r) ?_ ?_
  ·
   refine q1rq [] [] ⟨129, [(0, .ptr 2000 0), (3, .ptr 3 0), (6, .i ((12 : Int) + x3)), (9, .str (gM x10 [] (((12 : Int) + x3), x4))), (13, .nils), (85, .i x4), (86, .i (0 : Int)), (1000001, .tab .u64 Lib.pow10Tab), (1000002, errG), (1000003, errG)], (f66z2 x1 x2 x3 x4 x5 x6 x7 x8 x9 x10 x11 x12 x13 x14), [2000], 0⟩ trivial ?_
   refine AWp.block ?_
   refine AWp.loopL (α := Nat × (Nat × List (List UInt8))) (fun x => match x with | (_, n17, l18) => ⟨129, (f66z8 x3 x10 x4 n17), (f66z1 x1 x2 x3 x4 x5 x6 x7 x8 x9 x10 x11 x12 x13 x14 l18), [2000], 0⟩) (fun x => f66_L0 x3 x4 x8 x9 x10 x11 x12 x13 x14 K1 x.1 x.2 = some r) (fun x => x.1) (FUEL, 0, []) (Le.trans (Le.trans (Le.nilOwn 13 5013 9 1 (encF eS [] []) rfl rfl (Nat.le_of_ble_eq_true rfl)) (Le.mk (s' := ⟨129, [(0, .ptr 2000 0), (3, .ptr 3 0), (6, .i ((12 : Int) + x3)), (9, .str (gM x10 [] (((12 : Int) + x3), x4))), (13, .own 5013), (85, .i x4), (86, .i (0 : Int)), (1000001, .tab .u64 Lib.pow10Tab), (1000002, errG), (1000003, errG)], [(3, .cells 51 (f66z0 x1 x2 x3 x4 x5 x6 x7)), (2000, .cells 115 (f66z3)), (2001, bP (V.int .i64) 0 m108 [] x8), (2002, bP (V.int .i64) 0 m109 false x9), (2003, bP mk110E q1dII m110 [] x10), (2004, bP (V.int .i64) 0 m111 0 x11), (2005, bP mk110E q1dII m110 [] x12), (2006, bP mk112E q1dIIS m112 false x13), (2007, bP mk113E q1dII m113 false x14), (5013, q1bS_9 [])], [2000], 0⟩) rfl rfl ⟨.refl _, .refl _, .refl _, .refl _, .refl _, .refl _, .refl _, .refl _, .refl _, .refl _, trivial⟩ ⟨⟨_, rfl, .refl _⟩, ⟨_, rfl, .refl _⟩, ⟨_, rfl, .refl _⟩, ⟨_, rfl, .refl _⟩, ⟨_, rfl, .refl _⟩, ⟨_, rfl, .refl _⟩, ⟨_, rfl, .refl _⟩, ⟨_, rfl, .refl _⟩, ⟨_, rfl, .refl _⟩, ⟨_, rfl, .refl _⟩, trivial⟩)) (Le.mk (s' := ⟨129, [(0, .ptr 2000 0), (3, .ptr 3 0), (6, .i ((12 : Int) + x3)), (9, .str (gM x10 [] (((12 : Int) + x3), x4))), (13, .own 5013), (85, .i x4), (86, .i (0 : Int)), (1000001, .tab .u64 Lib.pow10Tab), (1000002, errG), (1000003, errG)], [(3, .cells 51 (f66z0 x1 x2 x3 x4 x5 x6 x7)), (2000, .cells 115 (f66z3)), (2001, bP (V.int .i64) 0 m108 [] x8), (2002, bP (V.int .i64) 0 m109 false x9), (2003, bP mk110E q1dII m110 [] x10), (2004, bP (V.int .i64) 0 m111 0 x11), (2005, bP mk110E q1dII m110 [] x12), (2006, bP mk112E q1dIIS m112 false x13), (2007, bP mk113E q1dII m113 false x14), (5013, q1bS_9 [])], [2000], 0⟩) rfl rfl ⟨.refl _, .refl _, .refl _, .refl _, .refl _, .refl _, .refl _, .refl _, .refl _, .refl _, trivial⟩ ⟨⟨_, rfl, .refl _⟩, ⟨_, rfl, .refl _⟩, ⟨_, rfl, .refl _⟩, ⟨_, rfl, .refl _⟩, ⟨_, rfl, .refl _⟩, ⟨_, rfl, .refl _⟩, ⟨_, rfl, .refl _⟩, ⟨_, rfl, .refl _⟩, ⟨_, rfl, .refl _⟩, ⟨_, rfl, .refl _⟩, trivial⟩)) h ?_
   rintro ⟨k0, n17, l18⟩ h
   cases k0 with
   | zero => exact nomatch (show (none : Option (Bool × (List Tq4) × (List Tq3) × (List (Tq0 × List UInt8)) × (List Tq0) × (List (Tq0 × List UInt8)) × (List (Tq2 × Bool)) × (List (Tq0 × Bool)))) = some r from h)
   | succ k0 =>
   obtain ⟨C0, hC0⟩ : ∃ C, C = f66_L0 x3 x4 x8 x9 x10 x11 x12 x13 x14 K1 k0 := ⟨_, rfl⟩
   replace h := (f66_L0.eq_2 ..).symm.trans h
   try rw [← hC0] at h
   refine q1rq [] [] ⟨129, [(0, .ptr 2000 0), (3, .ptr 3 0), (6, .i ((12 : Int) + x3)), (9, .str (gM x10 [] (((12 : Int) + x3), x4))), (13, .own 5013), (85, .i x4), (86, .i (n17 : Int)), (87, .bool (decide ((n17 : Int) < x4))), (1000001, .tab .u64 Lib.pow10Tab), (1000002, errG), (1000003, errG)], (f66z1 x1 x2 x3 x4 x5 x6 x7 x8 x9 x10 x11 x12 x13 x14 l18), [2000], 0⟩ trivial ?_
   refine AWp.seq ?_
   refine AWp.cond (b := (decide ((n17 : Int) < x4))) (by kernel_rfl) (fun hc2 => ?_) (fun hc2 => ?_)
   ·
    replace h := ite_tb hc2 h
    refine AWp.skip ?_
    refine tN ?_
    refine AWp.seq ?_
    refine AWp.block ?_
    refine q1rq [] [] ⟨129, [(0, .ptr 2000 0), (3, .ptr 3 0), (6, .i ((12 : Int) + x3)), (9, .str (gM x10 [] (((12 : Int) + x3), x4))), (13, .own 5013), (14, .i (n17 : Int)), (85, .i x4), (86, .i (n17 : Int)), (1000001, .tab .u64 Lib.pow10Tab), (1000002, errG), (1000003, errG)], (f66z1 x1 x2 x3 x4 x5 x6 x7 x8 x9 x10 x11 x12 x13 x14 l18), [2000], 0⟩ trivial ?_
    refine q1rq [] [(7, ⟨[.own 2003, .agg [.i ((12 : Int) + x3), .i (n17 : Int)]], [2003], [2003], [(2003, bP mk110E q1dII m110 [] x10)], .tup [.str (gM x10 [] (((12 : Int) + x3), (n17 : Int))), .bool (hM x10 (((12 : Int) + x3), (n17 : Int)))], [], [], []⟩)] ⟨129, [(0, .ptr 2000 0), (3, .ptr 3 0), (6, .i ((12 : Int) + x3)), (9, .str (gM x10 [] (((12 : Int) + x3), x4))), (13, .own 5013), (15, .str (gM x10 [] (((12 : Int) + x3), (n17 : Int)))), (16, .bool (hM x10 (((12 : Int) + x3), (n17 : Int)))), (85, .i x4), (86, .i (n17 : Int)), (1000001, .tab .u64 Lib.pow10Tab), (1000002, errG), (1000003, errG)], (f66z1 x1 x2 x3 x4 x5 x6 x7 x8 x9 x10 x11 x12 x13 x14 l18), [2000], 0⟩ (an1 (And.intro (lookP_spec (P := Tryz.prog) Tryz.underlying110 mk110E kE110 q1dII m110 [] [] (by kernel_rfl) (.tmp 93) (.tmp 96) 118 2003 x10 (((12 : Int) + x3), (n17 : Int))) (VLes.same [.own 2003, .agg [.i ((12 : Int) + x3), .i (n17 : Int)]]))) ?_
    refine AWp.seq ?_
    refine q1rq [] [] ⟨129, [(0, .ptr 2000 0), (3, .ptr 3 0), (6, .i ((12 : Int) + x3)), (9, .str (gM x10 [] (((12 : Int) + x3), x4))), (13, .own 5013), (15, .str (gM x10 [] (((12 : Int) + x3), (n17 : Int)))), (85, .i x4), (86, .i (n17 : Int)), (101, .bool (!(hM x10 (((12 : Int) + x3), (n17 : Int))))), (1000001, .tab .u64 Lib.pow10Tab), (1000002, errG), (1000003, errG)], (f66z1 x1 x2 x3 x4 x5 x6 x7 x8 x9 x10 x11 x12 x13 x14 l18), [2000], 0⟩ trivial ?_
    refine AWp.cond (b := (!(hM x10 (((12 : Int) + x3), (n17 : Int))))) (by kernel_rfl) (fun hc3 => ?_) (fun hc3 => ?_)
    ·
     replace h := ite_tb hc3 h
     refine q1rq [] [] ⟨129, [(4, .bool false), (1000001, .tab .u64 Lib.pow10Tab), (1000002, errG), (1000003, errG)], (f66z4 x8 x9 x10 x11 x12 x13 x14), [2000], 0⟩ trivial ?_
     have hret := Option.some.inj h
     subst hret
     refine AWp.le (Le.mk (s' := ⟨129, [(4, .bool false)], (f66z4 x8 x9 x10 x11 x12 x13 x14), [2000], 0⟩) rfl rfl ⟨.refl _, trivial⟩ ⟨⟨_, rfl, .refl _⟩, ⟨_, rfl, .refl _⟩, ⟨_, rfl, .refl _⟩, ⟨_, rfl, .refl _⟩, ⟨_, rfl, .refl _⟩, ⟨_, rfl, .refl _⟩, ⟨_, rfl, .refl _⟩, ⟨_, rfl, .refl _⟩, trivial⟩) ?_
     refine AWp.ret ?_
     refine tR ?_
     refine kR ?_
     refine tR ?_
     refine tR ?_
     refine kR ?_
     refine joinQ_ret ?_
     exact bR _ rfl ⟨rfl, rfl⟩ rfl
    ·
     replace h := ite_fb hc3 h
     refine AWp.skip ?_
     refine tN ?_
     obtain ⟨ob17, h⟩ := chk_some h
     refine q1rr [] [] ⟨129, (f66z8 x3 x10 x4 n17), [(3, .cells 51 (f66z0 x1 x2 x3 x4 x5 x6 x7)), (2000, .cells 115 (f66z3)), (2001, bP (V.int .i64) 0 m108 [] x8), (2002, bP (V.int .i64) 0 m109 false x9), (2003, bP mk110E q1dII m110 [] x10), (2004, bP (V.int .i64) 0 m111 0 x11), (2005, bP mk110E q1dII m110 [] x12), (2006, bP mk112E q1dIIS m112 false x13), (2007, bP mk113E q1dII m113 false x14), (5013, .rows 9 1 ((l18).length + 1) (appF (l18).length (encF eS [] l18) (lstF 1 [.str (gM x10 [] (((12 : Int) + x3), (n17 : Int)))])))], [2000], 0⟩ (an1 ob17) ?_
     refine kN ?_
     refine tN ?_
     refine AWp.le (Le.mk (s' := ⟨129, (f66z8 x3 x10 x4 n17), (f66z6 x1 x2 x3 x4 x5 x6 x7 x8 x9 x10 x11 x12 x13 x14 l18 n17), [2000], 0⟩) rfl rfl ⟨.refl _, .refl _, .refl _, .refl _, .refl _, .refl _, .refl _, .refl _, .refl _, .refl _, trivial⟩ ⟨⟨_, rfl, .refl _⟩, ⟨_, rfl, .refl _⟩, ⟨_, rfl, .refl _⟩, ⟨_, rfl, .refl _⟩, ⟨_, rfl, .refl _⟩, ⟨_, rfl, .refl _⟩, ⟨_, rfl, .refl _⟩, ⟨_, rfl, .refl _⟩, ⟨_, rfl, .refl _⟩, ⟨_, rfl, (BLe.of (RL.app (RL.self _) (RL.lst (enc := eS) [(gM x10 [] (((12 : Int) + x3), (n17 : Int)))] rfl rfl (fun _ => rfl))))⟩, trivial⟩) ?_
     obtain ⟨ob18p, h⟩ := chk_some h
     have ob18 : -9223372036854775808 ≤ ((n17 : Int) + (1 : Int)) ∧ ((n17 : Int) + (1 : Int)) ≤ 9223372036854775807 := ⟨by omega, ob18p⟩
     refine q1rr [] [] ⟨129, [(0, .ptr 2000 0), (3, .ptr 3 0), (6, .i ((12 : Int) + x3)), (9, .str (gM x10 [] (((12 : Int) + x3), x4))), (13, .own 5013), (85, .i x4), (86, .i (((n17 + 1) : Nat) : Int)), (1000001, .tab .u64 Lib.pow10Tab), (1000002, errG), (1000003, errG)], (f66z6 x1 x2 x3 x4 x5 x6 x7 x8 x9 x10 x11 x12 x13 x14 l18 n17), [2000], 0⟩ (an1 ob18) ?_
     rw [hC0] at h
     exact lN (_, (n17 + 1), (l18 ++ [(gM x10 [] (((12 : Int) + x3), (n17 : Int)))])) (Le.mk rfl rfl ⟨.refl _, .refl _, .refl _, .refl _, .refl _, .refl _, .refl _, .refl _, .refl _, .refl _, trivial⟩ ⟨⟨_, rfl, .refl _⟩, ⟨_, rfl, .refl _⟩, ⟨_, rfl, .refl _⟩, ⟨_, rfl, .refl _⟩, ⟨_, rfl, .refl _⟩, ⟨_, rfl, .refl _⟩, ⟨_, rfl, .refl _⟩, ⟨_, rfl, .refl _⟩, ⟨_, rfl, .refl _⟩, ⟨_, rfl, .refl _⟩, trivial⟩) h (Nat.lt_succ_self _)
   ·
    replace h := ite_fb hc2 h
    refine AWp.exit ?_
    refine tE ?_
    refine tE ?_
    refine kS ?_
    exact jN (l18) (Le.mk rfl rfl ⟨.refl _, .refl _, .refl _, .refl _, .refl _, .refl _, trivial⟩ ⟨⟨_, rfl, .refl _⟩, ⟨_, rfl, .refl _⟩, ⟨_, rfl, .refl _⟩, ⟨_, rfl, .refl _⟩, ⟨_, rfl, .refl _⟩, ⟨_, rfl, .refl _⟩, ⟨_, rfl, .refl _⟩, ⟨_, rfl, .refl _⟩, ⟨_, rfl, .refl _⟩, ⟨_, rfl, .refl _⟩, trivial⟩) h
  ·
   rintro l19 h
   replace h := (congrFun hK1 _).symm.trans h
   refine AWp.seq ?_
   exact nomatch (show (none : Option (Bool × (List Tq4) × (List Tq3) × (List (Tq0 × List UInt8)) × (List Tq0) × (List (Tq0 × List UInt8)) × (List (Tq2 × Bool)) × (List (Tq0 × Bool)))) = some r from h)
abbrev f43z0 (x1 : Int) (x2 : Int) (x3 : Int) (x4 : Int) (x5 : Int) (x6 : List UInt8) (x7 : List UInt8) : List V := [.int .i64 x1, .int .i64 x2, .int .i64 x3, .int .i64 x4, .int .i64 x5, .str x6, .str x7, .opq, .opq, .opq, .opq, .opq, .opq, .opq, .opq, .opq, .opq, .opq, .opq, .opq, .opq, .opq, .opq, .opq, .opq, .opq, .opq, .opq]
abbrev f43z1 (x1 : Int) (x2 : Int) (x3 : Int) (x4 : Int) (x5 : Int) (x6 : List UInt8) (x7 : List UInt8) (x8 : List Tq4) (x9 : List Tq3) (x10 : List (Tq0 × List UInt8)) (x11 : List Tq0) (x12 : List (Tq0 × List UInt8)) (x13 : List (Tq2 × Bool)) (x14 : List (Tq0 × Bool)) : Heap := [(3, .cells 51 (f43z0 x1 x2 x3 x4 x5 x6 x7)), (2000, .cells 115 [.own 2001, .own 2002, .own 2003, .own 2004, .own 2005, .own 2006, .own 2007]), (2001, bP (V.int .i64) 0 m108 [] x8), (2002, bP (V.int .i64) 0 m109 false x9), (2003, bP mk110E (default : Tq0) m110 [] x10), (2004, bP (V.int .i64) 0 m111 0 x11), (2005, bP mk110E (default : Tq0) m110 [] x12), (2006, bP mk112E (default : Tq2) m112 false x13), (2007, bP mk113E (default : Tq0) m113 false x14)]
abbrev f43z2 (x8 : List Tq4) (x9 : List Tq3) (x10 : List (Tq0 × List UInt8)) (x11 : List Tq0) (x12 : List (Tq0 × List UInt8)) (x13 : List (Tq2 × Bool)) (x14 : List (Tq0 × Bool)) : Heap := [(2000, .cells 115 [.own 2001, .own 2002, .own 2003, .own 2004, .own 2005, .own 2006, .own 2007]), (2001, bP (V.int .i64) 0 m108 [] x8), (2002, bP (V.int .i64) 0 m109 false x9), (2003, bP mk110E (default : Tq0) m110 [] x10), (2004, bP (V.int .i64) 0 m111 0 x11), (2005, bP mk110E (default : Tq0) m110 [] x12), (2006, bP mk112E (default : Tq2) m112 false x13), (2007, bP mk113E (default : Tq0) m113 false x14)]
abbrev f43z3 (r17 : Bool × (List Tq4) × (List Tq3) × (List (Tq0 × List UInt8)) × (List Tq0) × (List (Tq0 × List UInt8)) × (List (Tq2 × Bool)) × (List (Tq0 × Bool))) : Heap := [(2000, .cells 115 [.own 2001, .own 2002, .own 2003, .own 2004, .own 2005, .own 2006, .own 2007]), (2001, bP (V.int .i64) 0 m108 [] r17.2.1), (2002, bP (V.int .i64) 0 m109 false r17.2.2.1), (2003, bP mk110E (default : Tq0) m110 [] r17.2.2.2.1), (2004, bP (V.int .i64) 0 m111 0 r17.2.2.2.2.1), (2005, bP mk110E (default : Tq0) m110 [] r17.2.2.2.2.2.1), (2006, bP mk112E (default : Tq2) m112 false r17.2.2.2.2.2.2.1), (2007, bP mk113E (default : Tq0) m113 false r17.2.2.2.2.2.2.2)]
abbrev f43z4 : List (Nat × V) := [(0, .ptr 2000 0), (3, .ptr 3 0), (1000001, .tab .u64 Lib.pow10Tab), (1000002, errG), (1000003, errG)]
abbrev f43z5 (l18 : List Tq4) (l19 : List Tq3) (l20 : List (Tq0 × List UInt8)) (l21 : List Tq0) (l22 : List (Tq0 × List UInt8)) (l23 : List (Tq2 × Bool)) (l24 : List (Tq0 × Bool)) : Heap := [(2000, .cells 115 [.own 2001, .own 2002, .own 2003, .own 2004, .own 2005, .own 2006, .own 2007]), (2001, bP (V.int .i64) 0 m108 [] l18), (2002, bP (V.int .i64) 0 m109 false l19), (2003, bP mk110E (default : Tq0) m110 [] l20), (2004, bP (V.int .i64) 0 m111 0 l21), (2005, bP mk110E (default : Tq0) m110 [] l22), (2006, bP mk112E (default : Tq2) m112 false l23), (2007, bP mk113E (default : Tq0) m113 false l24)]
abbrev f43z6 : List (Nat × V) := [(1000001, .tab .u64 Lib.pow10Tab), (1000002, errG), (1000003, errG)]
abbrev f43z7 := (List (Tq0 × List UInt8))
def f43 (x1 : Int) (x2 : Int) (x3 : Int) (x4 : Int) (x5 : Int) (x6 : List UInt8) (x7 : List UInt8) (x8 : List Tq4) (x9 : List Tq3) (x10 : List (Tq0 × List UInt8)) (x11 : List Tq0) (x12 : List (Tq0 × List UInt8)) (x13 : List (Tq2 × Bool)) (x14 : List (Tq0 × Bool)) : Option (Int × (List Tq4) × (List Tq3) × (List (Tq0 × List UInt8)) × (List Tq0) × (List (Tq0 × List UInt8)) × (List (Tq2 × Bool)) × (List (Tq0 × Bool))) :=
 jn (fun (_ : Unit) =>
 jn (fun ((l18, l19, l20, l21, l22, l23, l24) : (List Tq4) × (List Tq3) × (List (Tq0 × List UInt8)) × (List Tq0) × (List (Tq0 × List UInt8)) × (List (Tq2 × Bool)) × (List (Tq0 × Bool))) =>
 some ((0 : Int), l18, l19, l20, l21, l22, l23, l24)
 ) fun (K3 : ((List Tq4) × (List Tq3) × (List (Tq0 × List UInt8)) × (List Tq0) × (List (Tq0 × List UInt8)) × (List (Tq2 × Bool)) × (List (Tq0 × Bool))) → Option (Int × (List Tq4) × (List Tq3) × (List (Tq0 × List UInt8)) × (List Tq0) × (List (Tq0 × List UInt8)) × (List (Tq2 × Bool)) × (List (Tq0 × Bool)))) =>
 optc ((x2 == (2 : Int)) == true) (f57 x1 x2 x3 x4 x5 x6 x7) fun (r16 : Bool) =>
 if ((x2 == (2 : Int)) && r16) = true then (
 (f66 x1 x2 x3 x4 x5 x6 x7 x8 x9 x10 x11 x12 x13 x14).bind fun (r17 : Bool × (List Tq4) × (List Tq3) × (List (Tq0 × List UInt8)) × (List Tq0) × (List (Tq0 × List UInt8)) × (List (Tq2 × Bool)) × (List (Tq0 × Bool))) =>
 if (!r17.1) then (
 some ((3 : Int), r17.2.1, r17.2.2.1, r17.2.2.2.1, r17.2.2.2.2.1, r17.2.2.2.2.2.1, r17.2.2.2.2.2.2.1, r17.2.2.2.2.2.2.2)
 ) else (
 K3 (r17.2.1, r17.2.2.1, r17.2.2.2.1, r17.2.2.2.2.1, r17.2.2.2.2.2.1, r17.2.2.2.2.2.2.1, r17.2.2.2.2.2.2.2)
 )
 ) else (
 K3 (x8, x9, x10, x11, x12, x13, x14)
 )
 ) fun (K1 : Unit → Option (Int × (List Tq4) × (List Tq3) × (List (Tq0 × List UInt8)) × (List Tq0) × (List (Tq0 × List UInt8)) × (List (Tq2 × Bool)) × (List (Tq0 × Bool)))) =>
 (f50 x1 x2 x3 x4 x5 x6 x7).bind fun (r15 : Tq3) =>
 if r15.2 then (
 jn (fun (_ : Unit) =>
 if (x2 == (3 : Int)) = true then (
 if (x4 != (gM x11 (0 : Int) x3)) then (
 some ((2 : Int), x8, x9, x10, x11, x12, x13, x14)
 ) else (
 K1 ()
 )
 ) else (
 K1 ()
 )
 ) fun (K2 : Unit → Option (Int × (List Tq4) × (List Tq3) × (List (Tq0 × List UInt8)) × (List Tq0) × (List (Tq0 × List UInt8)) × (List (Tq2 × Bool)) × (List (Tq0 × Bool)))) =>
 if (hM x8 x4) = true then (
 if (!((gM x8 [] x4) == x6)) = true then (
 some ((1 : Int), x8, x9, x10, x11, x12, x13, x14)
 ) else (
 if (gM x9 false x4) then (
 some ((1 : Int), x8, x9, x10, x11, x12, x13, x14)
 ) else (
 K2 ()
 )
 )
 ) else (
 chk (false = true → false = true → (!((gM x8 [] x4) == x6)) = false → false = true) <|
 K2 ()
 )
 ) else (
 K1 ()
 )
theorem f43_ok  (x1 : Int) (x2 : Int) (x3 : Int) (x4 : Int) (x5 : Int) (x6 : List UInt8) (x7 : List UInt8) (x8 : List Tq4) (x9 : List Tq3) (x10 : List (Tq0 × List UInt8)) (x11 : List Tq0) (x12 : List (Tq0 × List UInt8)) (x13 : List (Tq2 × Bool)) (x14 : List (Tq0 × Bool)) (r : Int × (List Tq4) × (List Tq3) × (List (Tq0 × List UInt8)) × (List Tq0) × (List (Tq0 × List UInt8)) × (List (Tq2 × Bool)) × (List (Tq0 × Bool))) (h : f43 x1 x2 x3 x4 x5 x6 x7 x8 x9 x10 x11 x12 x13 x14 = some r)  : Spec1 Tryz.prog 43 [(1, .tab .u64 Lib.pow10Tab), (2, errG), (3, errG)] [2000] [(2000, .cells 115 [.own 2001, .own 2002, .own 2003, .own 2004, .own 2005, .own 2006, .own 2007]), (2001, bP (V.int .i64) 0 m108 [] x8), (2002, bP (V.int .i64) 0 m109 false x9), (2003, bP mk110E (default : Tq0) m110 [] x10), (2004, bP (V.int .i64) 0 m111 0 x11), (2005, bP mk110E (default : Tq0) m110 [] x12), (2006, bP mk112E (default : Tq2) m112 false x13), (2007, bP mk113E (default : Tq0) m113 false x14)] [.ptr 2000 0, .agg [.int .i64 x1, .int .i64 x2, .int .i64 x3, .int .i64 x4, .int .i64 x5, .str x6, .str x7, .opq, .opq, .opq, .opq, .opq, .opq, .opq, .opq, .opq, .opq, .opq, .opq, .opq, .opq, .opq, .opq, .opq, .opq, .opq, .opq, .opq]] (.int .i64 r.1) [(2000, .cells 115 [.own 2001, .own 2002, .own 2003, .own 2004, .own 2005, .own 2006, .own 2007]), (2001, bP (V.int .i64) 0 m108 [] r.2.1), (2002, bP (V.int .i64) 0 m109 false r.2.2.1), (2003, bP mk110E (default : Tq0) m110 [] r.2.2.2.1), (2004, bP (V.int .i64) 0 m111 0 r.2.2.2.2.1), (2005, bP mk110E (default : Tq0) m110 [] r.2.2.2.2.2.1), (2006, bP mk112E (default : Tq2) m112 false r.2.2.2.2.2.2.1), (2007, bP mk113E (default : Tq0) m113 false r.2.2.2.2.2.2.2)] := by
 unfold f43 at h
 refine Spec1.body 0 _ _ Tryz.func43 rfl Tryz.ntmps43 rfl rfl ?_
 refine q1rq [] [] ⟨69, (f43z4), (f43z1 x1 x2 x3 x4 x5 x6 x7 x8 x9 x10 x11 x12 x13 x14), [2000], 0⟩ trivial ?_
 obtain ⟨K1, hK1, h⟩ := jn_some h
 refine AWp.join (α := Unit) (fun (x : Unit) => match x with | () => ⟨69, (f43z4), (f43z1 x1 x2 x3 x4 x5 x6 x7 x8 x9 x10 x11 x12 x13 x14), [2000], 0⟩) (fun x => K1 x = some r) ?_ ?_
 ·
  refine AWp.seq ?_
  obtain ⟨r15, hr15, h⟩ := bind_ok h
  refine q1rr [] [(1, ⟨[.agg (f43z0 x1 x2 x3 x4 x5 x6 x7)], [], [], [], .tup [.i r15.1, .bool r15.2], [], [], []⟩)] ⟨69, [(0, .ptr 2000 0), (3, .ptr 3 0), (6, .bool r15.2), (1000001, .tab .u64 Lib.pow10Tab), (1000002, errG), (1000003, errG)], (f43z1 x1 x2 x3 x4 x5 x6 x7 x8 x9 x10 x11 x12 x13 x14), [2000], 0⟩ (an1 (cpT (f50_ok _ _ _ _ _ _ _ _ hr15))) ?_
  refine tN ?_
  refine q1rq [] [] ⟨69, [(0, .ptr 2000 0), (3, .ptr 3 0), (14, .bool r15.2), (1000001, .tab .u64 Lib.pow10Tab), (1000002, errG), (1000003, errG)], (f43z1 x1 x2 x3 x4 x5 x6 x7 x8 x9 x10 x11 x12 x13 x14), [2000], 0⟩ trivial ?_
  refine AWp.cond (b := r15.2) (by kernel_rfl) (fun hc1 => ?_) (fun hc1 => ?_)
  ·
   replace h := ite_tb hc1 h
   obtain ⟨K2, hK2, h⟩ := jn_some h
   refine AWp.join (α := Unit) (fun (x : Unit) => match x with | () => ⟨69, (f43z4), (f43z1 x1 x2 x3 x4 x5 x6 x7 x8 x9 x10 x11 x12 x13 x14), [2000], 0⟩) (fun x => K2 x = some r) ?_ ?_
   ·
    refine q1rq [] [(6, ⟨[.own 2001, .i x4], [2001], [2001], [(2001, bP (V.int .i64) 0 m108 [] x8)], .tup [.str (gM x8 [] x4), .bool (hM x8 x4)], [], [], []⟩)] ⟨69, [(0, .ptr 2000 0), (3, .ptr 3 0), (7, .str (gM x8 [] x4)), (8, .bool (hM x8 x4)), (1000001, .tab .u64 Lib.pow10Tab), (1000002, errG), (1000003, errG)], (f43z1 x1 x2 x3 x4 x5 x6 x7 x8 x9 x10 x11 x12 x13 x14), [2000], 0⟩ (an1 (And.intro (lookP_spec (P := Tryz.prog) Tryz.underlying108 (V.int .i64) kE108 0 m108 [] [] (by kernel_rfl) (.tmp 19) (.tmp 21) 118 2001 x8 x4) (VLes.same [.own 2001, .i x4]))) ?_
    refine AWp.seq ?_
    by_cases hg4_1 : (hM x8 x4) = true
    ·
     replace h := ite_t hg4_1 h
     by_cases hg4_6 : (!((gM x8 [] x4) == x6)) = true
     ·
      replace h := ite_t hg4_6 h
      have ob0 := idA (true = true)
      have ob1 := idA (true = true)
      have ob2 := idA (true = true)
      have ob3 := idA (true = true)
      have ob4 := idA (false = true)
      have ob5 := idA (false = true)
      have ob6 := idA (false = true)
      have ob7 := idA (false = true)
      have ob8 : true = true → true = true → true = false → false = true := by first | decide | omega | simp | (intro h; cases h)
      have ob9 := idA (true = true)
      have ob10 : true = true → true = true → true = true := fun _ h => h
      refine q1rr [] [(1, ⟨[], [], [], [], (.bool true), [], [0], []⟩), (6, ⟨[], [], [], [], (.opt true (.bool true)), [], [0], []⟩), (13, ⟨[], [], [], [], .bool (gM x9 false x4), [], [], []⟩)] ⟨69, [(0, .ptr 2000 0), (3, .ptr 3 0), (40, .bool true), (1000001, .tab .u64 Lib.pow10Tab), (1000002, errG), (1000003, errG)], (f43z1 x1 x2 x3 x4 x5 x6 x7 x8 x9 x10 x11 x12 x13 x14), [2000], 0⟩ (ac6 (show ((.bool (hM x8 x4)) : V) = (.bool true) from (congrArg (fun x => ((.bool x) : V)) hg4_1)) (an1 ob0) (an2 ob1 ob2) (And.intro (an1 ob3) (show ((.opt true (.bool (!((gM x8 [] x4) == x6)))) : V) = (.opt true (.bool true)) from (congrArg (fun x => ((.opt true (.bool x)) : V)) hg4_6))) (an1 ob4) (an1 ob5) (an5 (an1 ob6) (an1 ob7) trivial (And.intro ob8 (an1 ob9)) ob10)) ?_
      refine tN ?_
      refine AWp.cond (b := true) (by kernel_rfl) (fun hc => ?_) (fun hc => ?_)
      ·
       clear hc
       refine q1rq [] [] ⟨69, [(4, .i (1 : Int)), (1000001, .tab .u64 Lib.pow10Tab), (1000002, errG), (1000003, errG)], (f43z2 x8 x9 x10 x11 x12 x13 x14), [2000], 0⟩ trivial ?_
       have hret := Option.some.inj h
       subst hret
       refine AWp.le (Le.mk (s' := ⟨69, [(4, .i (1 : Int))], (f43z2 x8 x9 x10 x11 x12 x13 x14), [2000], 0⟩) rfl rfl ⟨.refl _, trivial⟩ ⟨⟨_, rfl, .refl _⟩, ⟨_, rfl, .refl _⟩, ⟨_, rfl, .refl _⟩, ⟨_, rfl, .refl _⟩, ⟨_, rfl, .refl _⟩, ⟨_, rfl, .refl _⟩, ⟨_, rfl, .refl _⟩, ⟨_, rfl, .refl _⟩, trivial⟩) ?_
       refine AWp.ret ?_
       refine joinQ_ret ?_
       refine joinQ_ret ?_
       exact bR _ rfl ⟨rfl, rfl⟩ rfl
      ·
       cases hc
     ·
      replace h := ite_f hg4_6 h
      have ob0 := idA (true = true)
      have ob1 := idA (true = true)
      have ob2 := idA (true = true)
      have ob3 := idA (true = true)
      have ob4 := idA (true = true)
      have ob5 := idA (true = true)
      have ob6 := idA (true = true)
      have ob7 := idA (true = true)
      have ob8 := idA (true = true)
      have ob9 := idA (true = true)
      have ob10 : true = true → True := by first | decide | omega | simp | (intro h; cases h)
      have ob11 := idA (true = true)
      have ob12 : true = true → true = true → true = true := fun _ h => h
      refine q1rr [] [(1, ⟨[], [], [], [], (.bool true), [], [0], []⟩), (6, ⟨[], [], [], [], (.opt true (.bool false)), [], [0], []⟩), (13, ⟨[.own 2002, .i x4], [2002], [2002], [(2002, bP (V.int .i64) 0 m109 false x9)], .bool (gM x9 false x4), [], [], []⟩)] ⟨69, [(0, .ptr 2000 0), (3, .ptr 3 0), (40, .bool (gM x9 false x4)), (1000001, .tab .u64 Lib.pow10Tab), (1000002, errG), (1000003, errG)], (f43z1 x1 x2 x3 x4 x5 x6 x7 x8 x9 x10 x11 x12 x13 x14), [2000], 0⟩ (ac6 (show ((.bool (hM x8 x4)) : V) = (.bool true) from (congrArg (fun x => ((.bool x) : V)) hg4_1)) (an1 ob0) (an2 ob1 ob2) (And.intro (an1 ob3) (show ((.opt true (.bool (!((gM x8 [] x4) == x6)))) : V) = (.opt true (.bool false)) from (congrArg (fun x => ((.opt true (.bool x)) : V)) (Bool.eq_false_iff.2 hg4_6)))) (an1 ob4) (an1 ob5) (an5 (an1 ob6) (an1 ob7) (And.intro (And.intro (lookP1_spec (P := Tryz.prog) Tryz.underlying109 (V.int .i64) kE109 0 m109 false false (by kernel_rfl) (.tmp 35) (.tmp 37) 4 2002 x9 x4) (VLes.same [.own 2002, .i x4])) (an2 ob8 ob9)) (And.intro ob10 (an1 ob11)) ob12)) ?_
      refine tN ?_
      refine AWp.cond (b := (gM x9 false x4)) (by kernel_rfl) (fun hc4 => ?_) (fun hc4 => ?_)
      ·
       replace h := ite_tb hc4 h
       refine q1rq [] [] ⟨69, [(4, .i (1 : Int)), (1000001, .tab .u64 Lib.pow10Tab), (1000002, errG), (1000003, errG)], (f43z2 x8 x9 x10 x11 x12 x13 x14), [2000], 0⟩ trivial ?_
       have hret := Option.some.inj h
       subst hret
       refine AWp.le (Le.mk (s' := ⟨69, [(4, .i (1 : Int))], (f43z2 x8 x9 x10 x11 x12 x13 x14), [2000], 0⟩) rfl rfl ⟨.refl _, trivial⟩ ⟨⟨_, rfl, .refl _⟩, ⟨_, rfl, .refl _⟩, ⟨_, rfl, .refl _⟩, ⟨_, rfl, .refl _⟩, ⟨_, rfl, .refl _⟩, ⟨_, rfl, .refl _⟩, ⟨_, rfl, .refl _⟩, ⟨_, rfl, .refl _⟩, trivial⟩) ?_
       refine AWp.ret ?_
       refine joinQ_ret ?_
       refine joinQ_ret ?_
       exact bR _ rfl ⟨rfl, rfl⟩ rfl
      ·
       replace h := ite_fb hc4 h
       refine AWp.skip ?_
       exact jN () (Le.mk rfl rfl ⟨.refl _, .refl _, .refl _, .refl _, .refl _, trivial⟩ ⟨⟨_, rfl, .refl _⟩, ⟨_, rfl, .refl _⟩, ⟨_, rfl, .refl _⟩, ⟨_, rfl, .refl _⟩, ⟨_, rfl, .refl _⟩, ⟨_, rfl, .refl _⟩, ⟨_, rfl, .refl _⟩, ⟨_, rfl, .refl _⟩, ⟨_, rfl, .refl _⟩, trivial⟩) h
    ·
     replace h := ite_f hg4_1 h
     have ob0 := idA (false = true)
     have ob1 := idA (false = true)
     have ob2 := idA (false = true)
     have ob3 := idA (false = true)
     have ob4 := idA (false = true)
     have ob5 := idA (false = true)
     have ob6 := idA (false = true)
     have ob7 := idA (false = true)
     obtain ⟨ob8, h⟩ := chk_some h
     have ob9 := idA (false = true)
     have ob10 : true = true → false = true → false = true := fun _ h => h
     refine q1rr [] [(1, ⟨[], [], [], [], (.bool false), [], [0], []⟩), (13, ⟨[], [], [], [], .bool (gM x9 false x4), [], [], []⟩)] ⟨69, [(0, .ptr 2000 0), (3, .ptr 3 0), (40, .bool false), (1000001, .tab .u64 Lib.pow10Tab), (1000002, errG), (1000003, errG)], (f43z1 x1 x2 x3 x4 x5 x6 x7 x8 x9 x10 x11 x12 x13 x14), [2000], 0⟩ (ac6 (show ((.bool (hM x8 x4)) : V) = (.bool false) from (congrArg (fun x => ((.bool x) : V)) (Bool.eq_false_iff.2 hg4_1))) (an1 ob0) (an2 ob1 ob2) (an1 ob3) (an1 ob4) (an1 ob5) (an5 (an1 ob6) (an1 ob7) trivial (And.intro ob8 (an1 ob9)) ob10)) ?_
     refine tN ?_
     refine AWp.cond (b := false) (by kernel_rfl) (fun hc => ?_) (fun hc => ?_)
     ·
      cases hc
     ·
      clear hc
      refine AWp.skip ?_
      exact jN () (Le.mk rfl rfl ⟨.refl _, .refl _, .refl _, .refl _, .refl _, trivial⟩ ⟨⟨_, rfl, .refl _⟩, ⟨_, rfl, .refl _⟩, ⟨_, rfl, .refl _⟩, ⟨_, rfl, .refl _⟩, ⟨_, rfl, .refl _⟩, ⟨_, rfl, .refl _⟩, ⟨_, rfl, .refl _⟩, ⟨_, rfl, .refl _⟩, ⟨_, rfl, .refl _⟩, trivial⟩) h
   ·
    rintro ⟨⟩ h
    replace h := (congrFun hK2 _).symm.trans h
    refine AWp.seq ?_
    by_cases hg6_3 : (x2 == (3 : Int)) = true
    ·
     replace h := ite_t hg6_3 h
     have ob13 := idA (true = true)
     have ob14 := idA (true = true)
     have ob15 := idA (true = true)
     have ob16 := idA (true = true)
     have ob17 := idA (true = true)
     have ob18 := idA (true = true)
     have ob19 := idA (true = true)
     have ob20 := idA (true = true)
     have ob21 : true = true → true = true → true = true := fun _ h => h
     refine q1rr [] [(3, ⟨[], [], [], [], (.bool true), [], [0], []⟩), (12, ⟨[.own 2004, .i x3], [2004], [2004], [(2004, bP (V.int .i64) 0 m111 0 x11)], .i (gM x11 (0 : Int) x3), [], [], []⟩)] ⟨69, [(0, .ptr 2000 0), (3, .ptr 3 0), (55, .bool (x4 != (gM x11 (0 : Int) x3))), (1000001, .tab .u64 Lib.pow10Tab), (1000002, errG), (1000003, errG)], (f43z1 x1 x2 x3 x4 x5 x6 x7 x8 x9 x10 x11 x12 x13 x14), [2000], 0⟩ (ac6 (show ((.bool (x2 == (3 : Int))) : V) = (.bool true) from (congrArg (fun x => ((.bool x) : V)) hg6_3)) (an1 ob13) (an1 ob14) (an1 ob15) (an1 ob16) (an1 ob17) (an3 (And.intro (And.intro (lookP1_spec (P := Tryz.prog) Tryz.underlying111 (V.int .i64) kE111 0 m111 0 (0 : Int) (by kernel_rfl) (.tmp 50) (.tmp 52) 3 2004 x11 x3) (VLes.same [.own 2004, .i x3])) (an2 ob18 ob19)) (an1 ob20) ob21)) ?_
     refine tN ?_
     refine AWp.cond (b := (x4 != (gM x11 (0 : Int) x3))) (by kernel_rfl) (fun hc6 => ?_) (fun hc6 => ?_)
     ·
      replace h := ite_tb hc6 h
      refine q1rq [] [] ⟨69, [(4, .i (2 : Int)), (1000001, .tab .u64 Lib.pow10Tab), (1000002, errG), (1000003, errG)], (f43z2 x8 x9 x10 x11 x12 x13 x14), [2000], 0⟩ trivial ?_
      have hret := Option.some.inj h
      subst hret
      refine AWp.le (Le.mk (s' := ⟨69, [(4, .i (2 : Int))], (f43z2 x8 x9 x10 x11 x12 x13 x14), [2000], 0⟩) rfl rfl ⟨.refl _, trivial⟩ ⟨⟨_, rfl, .refl _⟩, ⟨_, rfl, .refl _⟩, ⟨_, rfl, .refl _⟩, ⟨_, rfl, .refl _⟩, ⟨_, rfl, .refl _⟩, ⟨_, rfl, .refl _⟩, ⟨_, rfl, .refl _⟩, ⟨_, rfl, .refl _⟩, trivial⟩) ?_
      refine AWp.ret ?_
      refine joinQ_ret ?_
      exact bR _ rfl ⟨rfl, rfl⟩ rfl
     ·
      replace h := ite_fb hc6 h
      refine AWp.skip ?_
      exact jN () (Le.mk rfl rfl ⟨.refl _, .refl _, .refl _, .refl _, .refl _, trivial⟩ ⟨⟨_, rfl, .refl _⟩, ⟨_, rfl, .refl _⟩, ⟨_, rfl, .refl _⟩, ⟨_, rfl, .refl _⟩, ⟨_, rfl, .refl _⟩, ⟨_, rfl, .refl _⟩, ⟨_, rfl, .refl _⟩, ⟨_, rfl, .refl _⟩, ⟨_, rfl, .refl _⟩, trivial⟩) h
    ·
     replace h := ite_f hg6_3 h
     have ob13 := idA (false = true)
     have ob14 := idA (false = true)
     have ob15 := idA (false = true)
     have ob16 := idA (false = true)
     have ob17 := idA (false = true)
     have ob18 := idA (false = true)
     have ob19 := idA (false = true)
     have ob20 : true = true → false = true → false = true := fun _ h => h
     refine q1rr [] [(3, ⟨[], [], [], [], (.bool false), [], [0], []⟩), (12, ⟨[], [], [], [], .i (gM x11 (0 : Int) x3), [], [], []⟩)] ⟨69, [(0, .ptr 2000 0), (3, .ptr 3 0), (55, .bool false), (1000001, .tab .u64 Lib.pow10Tab), (1000002, errG), (1000003, errG)], (f43z1 x1 x2 x3 x4 x5 x6 x7 x8 x9 x10 x11 x12 x13 x14), [2000], 0⟩ (ac6 (show ((.bool (x2 == (3 : Int))) : V) = (.bool false) from (congrArg (fun x => ((.bool x) : V)) (Bool.eq_false_iff.2 hg6_3))) (an1 ob13) (an1 ob14) (an1 ob15) (an1 ob16) (an1 ob17) (an3 trivial (an2 ob18 ob19) ob20)) ?_
     refine tN ?_
     refine AWp.cond (b := false) (by kernel_rfl) (fun hc => ?_) (fun hc => ?_)
     ·
      cases hc
     ·
      clear hc
      refine AWp.skip ?_
      exact jN () (Le.mk rfl rfl ⟨.refl _, .refl _, .refl _, .refl _, .refl _, trivial⟩ ⟨⟨_, rfl, .refl _⟩, ⟨_, rfl, .refl _⟩, ⟨_, rfl, .refl _⟩, ⟨_, rfl, .refl _⟩, ⟨_, rfl, .refl _⟩, ⟨_, rfl, .refl _⟩, ⟨_, rfl, .refl _⟩, ⟨_, rfl, .refl _⟩, ⟨_, rfl, .refl _⟩, trivial⟩) h
  ·
   replace h := ite_fb hc1 h
   refine AWp.skip ?_
   exact jN () (Le.mk rfl rfl ⟨.refl _, .refl _, .refl _, .refl _, .refl _, trivial⟩ ⟨⟨_, rfl, .refl _⟩, ⟨_, rfl, .refl _⟩, ⟨_, rfl, .refl _⟩, ⟨_, rfl, .refl _⟩, ⟨_, rfl, .refl _⟩, ⟨_, rfl, .refl _⟩, ⟨_, rfl, .refl _⟩, ⟨_, rfl, .refl _⟩, ⟨_, rfl, .refl _⟩, trivial⟩) h
 ·
  rintro ⟨⟩ h
  replace h := (congrFun hK1 _).symm.trans h
  obtain ⟨K3, hK3, h⟩ := jn_some h
  refine AWp.join (α := (List Tq4) × (List Tq3) × (f43z7) × (List Tq0) × (f43z7) × (List (Tq2 × Bool)) × (List (Tq0 × Bool))) (fun (x : (List Tq4) × (List Tq3) × (f43z7) × (List Tq0) × (f43z7) × (List (Tq2 × Bool)) × (List (Tq0 × Bool))) => match x with | (l18, l19, l20, l21, l22, l23, l24) => ⟨69, (f43z6), (f43z5 l18 l19 l20 l21 l22 l23 l24), [2000], 0⟩) (fun x => K3 x = some r) ?_ ?_
  ·
   refine AWp.seq ?_
   obtain ⟨r16, hr16, h⟩ := optc_some h
   by_cases hg8_7 : ((x2 == (2 : Int)) && r16) = true
   ·
    replace h := ite_t hg8_7 h
    obtain ⟨r17, hr17, h⟩ := bind_ok h
    have ob22 := idA (((x2 == (2 : Int)) == true) = true)
    have ob23 := bqA (x2 == (2 : Int)) true
    have ob24 := idA (true = true)
    have ob25 := idA (true = true)
    have ob26 : true = true → true = true → true = true := fun _ h => h
    refine q1rr [] [(5, ⟨[.agg (f43z0 x1 x2 x3 x4 x5 x6 x7)], [], [], [], .bool r16, [], [], []⟩), (7, ⟨[], [], [], [], (.bool true), [], [0], []⟩), (10, ⟨[.ptr 2000 0, .agg (f43z0 x1 x2 x3 x4 x5 x6 x7)], [2000, 2001, 2002, 2003, 2004, 2005, 2006, 2007], [2000], (f43z3 r17), .bool r17.1, [2001, 2002, 2003, 2004, 2005, 2006, 2007], [], [1, 2, 3]⟩)] ⟨69, [(68, .bool (!r17.1)), (1000001, .tab .u64 Lib.pow10Tab), (1000002, errG), (1000003, errG)], (f43z3 r17), [2000], 0⟩ (an5 (And.intro (cpC fun hc => (f57_ok _ _ _ _ _ _ _ _ (hr16 hc))) (an1 ob22)) ob23 (show ((.bool ((x2 == (2 : Int)) && r16)) : V) = (.bool true) from (congrArg (fun x => ((.bool x) : V)) hg8_7)) (And.intro (cpT (f66_ok _ _ _ _ _ _ _ _ _ _ _ _ _ _ _ hr17)) (an2 ob24 ob25)) ob26) ?_
    refine tN ?_
    refine AWp.cond (b := (!r17.1)) (by kernel_rfl) (fun hc8 => ?_) (fun hc8 => ?_)
    ·
     replace h := ite_tb hc8 h
     refine q1rq [] [] ⟨69, [(4, .i (3 : Int)), (1000001, .tab .u64 Lib.pow10Tab), (1000002, errG), (1000003, errG)], (f43z3 r17), [2000], 0⟩ trivial ?_
     have hret := Option.some.inj h
     subst hret
     refine AWp.le (Le.mk (s' := ⟨69, [(4, .i (3 : Int))], (f43z3 r17), [2000], 0⟩) rfl rfl ⟨.refl _, trivial⟩ ⟨⟨_, rfl, .refl _⟩, ⟨_, rfl, .refl _⟩, ⟨_, rfl, .refl _⟩, ⟨_, rfl, .refl _⟩, ⟨_, rfl, .refl _⟩, ⟨_, rfl, .refl _⟩, ⟨_, rfl, .refl _⟩, ⟨_, rfl, .refl _⟩, trivial⟩) ?_
     refine AWp.ret ?_
     refine joinQ_ret ?_
     exact bR _ rfl ⟨rfl, rfl⟩ rfl
    ·
     replace h := ite_fb hc8 h
     refine AWp.skip ?_
     exact jN (r17.2.1, r17.2.2.1, r17.2.2.2.1, r17.2.2.2.2.1, r17.2.2.2.2.2.1, r17.2.2.2.2.2.2.1, r17.2.2.2.2.2.2.2) (Le.mk rfl rfl ⟨.refl _, .refl _, .refl _, trivial⟩ ⟨⟨_, rfl, .refl _⟩, ⟨_, rfl, .refl _⟩, ⟨_, rfl, .refl _⟩, ⟨_, rfl, .refl _⟩, ⟨_, rfl, .refl _⟩, ⟨_, rfl, .refl _⟩, ⟨_, rfl, .refl _⟩, ⟨_, rfl, .refl _⟩, trivial⟩) h
   ·
    replace h := ite_f hg8_7 h
    have ob22 := idA (((x2 == (2 : Int)) == true) = true)
    have ob23 := bqA (x2 == (2 : Int)) true
    have ob24 := idA (false = true)
    have ob25 := idA (false = true)
    have ob26 := idA (false = true)
    have ob27 : true = true → false = true → false = true := fun _ h => h
    refine q1rr [] [(5, ⟨[.agg (f43z0 x1 x2 x3 x4 x5 x6 x7)], [], [], [], .bool r16, [], [], []⟩), (7, ⟨[], [], [], [], (.bool false), [], [0], []⟩), (10, ⟨[], [], [], [], .bool false, [], [], []⟩)] ⟨69, [(68, .bool false), (1000001, .tab .u64 Lib.pow10Tab), (1000002, errG), (1000003, errG)], (f43z2 x8 x9 x10 x11 x12 x13 x14), [2000], 0⟩ (an6 (And.intro (cpC fun hc => (f57_ok _ _ _ _ _ _ _ _ (hr16 hc))) (an1 ob22)) ob23 (show ((.bool ((x2 == (2 : Int)) && r16)) : V) = (.bool false) from (congrArg (fun x => ((.bool x) : V)) (Bool.eq_false_iff.2 hg8_7))) (And.intro (show (callP Tryz.prog false 66 [] [] [] [] [] [.ptr 2000 0, .agg (f43z0 x1 x2 x3 x4 x5 x6 x7)] [] (.bool false) []) from ⟨nofun, nofun, .inl rfl⟩) (an2 ob24 ob25)) (an1 ob26) ob27) ?_
    refine tN ?_
    refine AWp.cond (b := false) (by kernel_rfl) (fun hc => ?_) (fun hc => ?_)
    ·
     cases hc
    ·
     clear hc
     refine AWp.skip ?_
     exact jN (x8, x9, x10, x11, x12, x13, x14) (Le.mk rfl rfl ⟨.refl _, .refl _, .refl _, trivial⟩ ⟨⟨_, rfl, .refl _⟩, ⟨_, rfl, .refl _⟩, ⟨_, rfl, .refl _⟩, ⟨_, rfl, .refl _⟩, ⟨_, rfl, .refl _⟩, ⟨_, rfl, .refl _⟩, ⟨_, rfl, .refl _⟩, ⟨_, rfl, .refl _⟩, trivial⟩) h
  ·
   rintro ⟨l18, l19, l20, l21, l22, l23, l24⟩ h
   replace h := (congrFun hK3 _).symm.trans h
   refine q1rq [] [] ⟨69, [(4, .i (0 : Int)), (1000001, .tab .u64 Lib.pow10Tab), (1000002, errG), (1000003, errG)], (f43z5 l18 l19 l20 l21 l22 l23 l24), [2000], 0⟩ trivial ?_
   have hret := Option.some.inj h
   subst hret
   refine AWp.le (Le.mk (s' := ⟨69, [(4, .i (0 : Int))], (f43z5 l18 l19 l20 l21 l22 l23 l24), [2000], 0⟩) rfl rfl ⟨.refl _, trivial⟩ ⟨⟨_, rfl, .refl _⟩, ⟨_, rfl, .refl _⟩, ⟨_, rfl, .refl _⟩, ⟨_, rfl, .refl _⟩, ⟨_, rfl, .refl _⟩, ⟨_, rfl, .refl _⟩, ⟨_, rfl, .refl _⟩, ⟨_, rfl, .refl _⟩, trivial⟩) ?_
   refine AWp.ret ?_
   exact bR _ rfl ⟨rfl, rfl⟩ rfl
abbrev f42z0 (r16 : Int × (List Tq4) × (List Tq3) × (List (Tq0 × List UInt8)) × (List Tq0) × (List (Tq0 × List UInt8)) × (List (Tq2 × Bool)) × (List (Tq0 × Bool))) : Heap := [(2000, .cells 115 [.own 2001, .own 2002, .own 2003, .own 2004, .own 2005, .own 2006, .own 2007]), (2001, bP (V.int .i64) 0 m108 [] r16.2.1), (2002, bP (V.int .i64) 0 m109 false r16.2.2.1), (2003, bP mk110E (default : Tq0) m110 [] r16.2.2.2.1), (2004, bP (V.int .i64) 0 m111 0 r16.2.2.2.2.1), (2005, bP mk110E (default : Tq0) m110 [] r16.2.2.2.2.2.1), (2006, bP mk112E (default : Tq2) m112 false r16.2.2.2.2.2.2.1), (2007, bP mk113E (default : Tq0) m113 false r16.2.2.2.2.2.2.2), (2008, .cells 3 [.int .i64 r16.1])]
def f42 (x1 : Int) (x2 : Int) (x3 : Int) (x4 : Int) (x5 : Int) (x6 : List UInt8) (x7 : List UInt8) (x8 : List Tq4) (x9 : List Tq3) (x10 : List (Tq0 × List UInt8)) (x11 : List Tq0) (x12 : List (Tq0 × List UInt8)) (x13 : List (Tq2 × Bool)) (x14 : List (Tq0 × Bool)) (x15 : Int) : Option (Bool × (List Tq4) × (List Tq3) × (List (Tq0 × List UInt8)) × (List Tq0) × (List (Tq0 × List UInt8)) × (List (Tq2 × Bool)) × (List (Tq0 × Bool)) × Int) :=
 (f43 x1 x2 x3 x4 x5 x6 x7 x8 x9 x10 x11 x12 x13 x14).bind fun (r16 : Int × (List Tq4) × (List Tq3) × (List (Tq0 × List UInt8)) × (List Tq0) × (List (Tq0 × List UInt8)) × (List (Tq2 × Bool)) × (List (Tq0 × Bool))) =>
 some ((r16.1 != (0 : Int)), r16.2.1, r16.2.2.1, r16.2.2.2.1, r16.2.2.2.2.1, r16.2.2.2.2.2.1, r16.2.2.2.2.2.2.1, r16.2.2.2.2.2.2.2, r16.1)
theorem f42_ok  (x1 : Int) (x2 : Int) (x3 : Int) (x4 : Int) (x5 : Int) (x6 : List UInt8) (x7 : List UInt8) (x8 : List Tq4) (x9 : List Tq3) (x10 : List (Tq0 × List UInt8)) (x11 : List Tq0) (x12 : List (Tq0 × List UInt8)) (x13 : List (Tq2 × Bool)) (x14 : List (Tq0 × Bool)) (x15 : Int) (r : Bool × (List Tq4) × (List Tq3) × (List (Tq0 × List UInt8)) × (List Tq0) × (List (Tq0 × List UInt8)) × (List (Tq2 × Bool)) × (List (Tq0 × Bool)) × Int) (h : f42 x1 x2 x3 x4 x5 x6 x7 x8 x9 x10 x11 x12 x13 x14 x15 = some r)  : Spec1 Tryz.prog 42 [(1, .tab .u64 Lib.pow10Tab), (2, errG), (3, errG)] [2000, 2008] [(2000, .cells 115 [.own 2001, .own 2002, .own 2003, .own 2004, .own 2005, .own 2006, .own 2007]), (2001, bP (V.int .i64) 0 m108 [] x8), (2002, bP (V.int .i64) 0 m109 false x9), (2003, bP mk110E (default : Tq0) m110 [] x10), (2004, bP (V.int .i64) 0 m111 0 x11), (2005, bP mk110E (default : Tq0) m110 [] x12), (2006, bP mk112E (default : Tq2) m112 false x13), (2007, bP mk113E (default : Tq0) m113 false x14), (2008, .cells 3 [.int .i64 x15])] [.ptr 2000 0, .agg [.int .i64 x1, .int .i64 x2, .int .i64 x3, .int .i64 x4, .int .i64 x5, .str x6, .str x7, .opq, .opq, .opq, .opq, .opq, .opq, .opq, .opq, .opq, .opq, .opq, .opq, .opq, .opq, .opq, .opq, .opq, .opq, .opq, .opq, .opq], .ptr 2008 0] (.bool r.1) [(2000, .cells 115 [.own 2001, .own 2002, .own 2003, .own 2004, .own 2005, .own 2006, .own 2007]), (2001, bP (V.int .i64) 0 m108 [] r.2.1), (2002, bP (V.int .i64) 0 m109 false r.2.2.1), (2003, bP mk110E (default : Tq0) m110 [] r.2.2.2.1), (2004, bP (V.int .i64) 0 m111 0 r.2.2.2.2.1), (2005, bP mk110E (default : Tq0) m110 [] r.2.2.2.2.2.1), (2006, bP mk112E (default : Tq2) m112 false r.2.2.2.2.2.2.1), (2007, bP mk113E (default : Tq0) m113 false r.2.2.2.2.2.2.2.1), (2008, .cells 3 [.int .i64 r.2.2.2.2.2.2.2.2])] := by
 unfold f42 at h
 refine Spec1.body 0 _ _ Tryz.func42 rfl Tryz.ntmps42 rfl rfl ?_
 refine q1rq [] [] ⟨11, [(0, .ptr 2000 0), (2, .ptr 2008 0), (4, .ptr 4 0), (1000001, .tab .u64 Lib.pow10Tab), (1000002, errG), (1000003, errG)], [(4, .cells 51 [.i x1, .i x2, .i x3, .i x4, .i x5, .str x6, .str x7, .opq, .opq, .opq, .opq, .opq, .opq, .opq, .opq, .opq, .opq, .opq, .opq, .opq, .opq, .opq, .opq, .opq, .opq, .opq, .opq, .opq]), (2000, .cells 115 [.own 2001, .own 2002, .own 2003, .own 2004, .own 2005, .own 2006, .own 2007]), (2001, bP (V.int .i64) 0 m108 [] x8), (2002, bP (V.int .i64) 0 m109 false x9), (2003, bP mk110E q1dII m110 [] x10), (2004, bP (V.int .i64) 0 m111 0 x11), (2005, bP mk110E q1dII m110 [] x12), (2006, bP mk112E q1dIIS m112 false x13), (2007, bP mk113E q1dII m113 false x14), (2008, .cells 3 [.i x15])], [2000, 2008], 0⟩ trivial ?_
 refine AWp.seq ?_
 obtain ⟨r16, hr16, h⟩ := bind_ok h
 refine q1rr [] [(2, ⟨[.ptr 2000 0, .agg [.i x1, .i x2, .i x3, .i x4, .i x5, .str x6, .str x7, .opq, .opq, .opq, .opq, .opq, .opq, .opq, .opq, .opq, .opq, .opq, .opq, .opq, .opq, .opq, .opq, .opq, .opq, .opq, .opq, .opq]], [2000, 2001, 2002, 2003, 2004, 2005, 2006, 2007], [2000], [(2000, .cells 115 [.own 2001, .own 2002, .own 2003, .own 2004, .own 2005, .own 2006, .own 2007]), (2001, bP (V.int .i64) 0 m108 [] r16.2.1), (2002, bP (V.int .i64) 0 m109 false r16.2.2.1), (2003, bP mk110E q1dII m110 [] r16.2.2.2.1), (2004, bP (V.int .i64) 0 m111 0 r16.2.2.2.2.1), (2005, bP mk110E q1dII m110 [] r16.2.2.2.2.2.1), (2006, bP mk112E q1dIIS m112 false r16.2.2.2.2.2.2.1), (2007, bP mk113E q1dII m113 false r16.2.2.2.2.2.2.2)], .i r16.1, [2001, 2002, 2003, 2004, 2005, 2006, 2007], [], [1, 2, 3]⟩)] ⟨11, [(2, .ptr 2008 0), (1000001, .tab .u64 Lib.pow10Tab), (1000002, errG), (1000003, errG)], (f42z0 r16), [2000, 2008], 0⟩ (an2 (cpT (f43_ok _ _ _ _ _ _ _ _ _ _ _ _ _ _ _ hr16)) trivial) ?_
 refine tN ?_
 refine q1rq [] [] ⟨11, [(5, .bool (r16.1 != (0 : Int))), (1000001, .tab .u64 Lib.pow10Tab), (1000002, errG), (1000003, errG)], (f42z0 r16), [2000, 2008], 0⟩ trivial ?_
 have hret := Option.some.inj h
 subst hret
 refine AWp.le (Le.mk (s' := ⟨11, [(5, .bool (r16.1 != (0 : Int)))], (f42z0 r16), [2000, 2008], 0⟩) rfl rfl ⟨.refl _, trivial⟩ ⟨⟨_, rfl, .refl _⟩, ⟨_, rfl, .refl _⟩, ⟨_, rfl, .refl _⟩, ⟨_, rfl, .refl _⟩, ⟨_, rfl, .refl _⟩, ⟨_, rfl, .refl _⟩, ⟨_, rfl, .refl _⟩, ⟨_, rfl, .refl _⟩, ⟨_, rfl, .refl _⟩, trivial⟩) ?_
 refine AWp.ret ?_
 exact bR _ rfl ⟨rfl, rfl⟩ rfl
abbrev f45z0 (x1 : Int) (x2 : Int) (x3 : Int) (x4 : Int) (x5 : Int) (x6 : List UInt8) (x7 : List UInt8) : List V := [.int .i64 x1, .int .i64 x2, .int .i64 x3, .int .i64 x4, .int .i64 x5, .str x6, .str x7, .opq, .opq, .opq, .opq, .opq, .opq, .opq, .opq, .opq, .opq, .opq, .opq, .opq, .opq, .opq, .opq, .opq, .opq, .opq, .opq, .opq]
abbrev f45z1 (x1 : Int) (x2 : Int) (x3 : Int) (x4 : Int) (x5 : Int) (x6 : List UInt8) (x7 : List UInt8) (x8 : List Tq4) (x9 : List Tq3) (x10 : List (Tq0 × List UInt8)) (x11 : List Tq0) (x12 : List (Tq0 × List UInt8)) (x13 : List (Tq2 × Bool)) (x14 : List (Tq0 × Bool)) : Heap := [(3, .cells 51 (f45z0 x1 x2 x3 x4 x5 x6 x7)), (2000, .cells 115 [.own 2001, .own 2002, .own 2003, .own 2004, .own 2005, .own 2006, .own 2007]), (2001, bP (V.int .i64) 0 m108 [] x8), (2002, bP (V.int .i64) 0 m109 false x9), (2003, bP mk110E (default : Tq0) m110 [] x10), (2004, bP (V.int .i64) 0 m111 0 x11), (2005, bP mk110E (default : Tq0) m110 [] x12), (2006, bP mk112E (default : Tq2) m112 false x13), (2007, bP mk113E (default : Tq0) m113 false x14)]
abbrev f45z2 : List V := [.own 2001, .own 2002, .own 2003, .own 2004, .own 2005, .own 2006, .own 2007]
abbrev f45z3 (x1 : Int) (x2 : Int) (x3 : Int) (x4 : Int) (x5 : Int) (x6 : List UInt8) (x7 : List UInt8) (l16 : List Tq4) (l17 : List Tq3) (x10 : List (Tq0 × List UInt8)) (x11 : List Tq0) (x12 : List (Tq0 × List UInt8)) (x13 : List (Tq2 × Bool)) (x14 : List (Tq0 × Bool)) : Heap := [(3, .cells 51 (f45z0 x1 x2 x3 x4 x5 x6 x7)), (2000, .cells 115 (f45z2)), (2001, bP (V.int .i64) 0 m108 [] l16), (2002, bP (V.int .i64) 0 m109 false l17), (2003, bP mk110E (default : Tq0) m110 [] x10), (2004, bP (V.int .i64) 0 m111 0 x11), (2005, bP mk110E (default : Tq0) m110 [] x12), (2006, bP mk112E (default : Tq2) m112 false x13), (2007, bP mk113E (default : Tq0) m113 false x14)]
abbrev f45z4 (x1 : Int) (x2 : Int) (x3 : Int) (x4 : Int) (x5 : Int) (x6 : List UInt8) (x7 : List UInt8) (l19 : List Tq4) (l20 : List Tq3) (l21 : List (Tq0 × List UInt8)) (l22 : List Tq0) (x12 : List (Tq0 × List UInt8)) (x13 : List (Tq2 × Bool)) (x14 : List (Tq0 × Bool)) : Heap := [(3, .cells 51 (f45z0 x1 x2 x3 x4 x5 x6 x7)), (10, .cells 145 [.int .i64 x3, .int .i64 x5]), (2000, .cells 115 (f45z2)), (2001, bP (V.int .i64) 0 m108 [] l19), (2002, bP (V.int .i64) 0 m109 false l20), (2003, bP mk110E (default : Tq0) m110 [] l21), (2004, bP (V.int .i64) 0 m111 0 l22), (2005, bP mk110E (default : Tq0) m110 [] x12), (2006, bP mk112E (default : Tq2) m112 false (updM x13 (x3, x5, x6) true)), (2007, bP mk113E (default : Tq0) m113 false x14)]
abbrev f45z5 (x1 : Int) (x2 : Int) (x3 : Int) (x4 : Int) (x5 : Int) (x6 : List UInt8) (x7 : List UInt8) (l16 : List Tq4) (l17 : List Tq3) (l18 : List (Tq0 × List UInt8)) (x11 : List Tq0) (x12 : List (Tq0 × List UInt8)) (x13 : List (Tq2 × Bool)) (x14 : List (Tq0 × Bool)) : Heap := [(3, .cells 51 (f45z0 x1 x2 x3 x4 x5 x6 x7)), (2000, .cells 115 (f45z2)), (2001, bP (V.int .i64) 0 m108 [] l16), (2002, bP (V.int .i64) 0 m109 false l17), (2003, bP mk110E (default : Tq0) m110 [] l18), (2004, bP (V.int .i64) 0 m111 0 x11), (2005, bP mk110E (default : Tq0) m110 [] x12), (2006, bP mk112E (default : Tq2) m112 false x13), (2007, bP mk113E (default : Tq0) m113 false x14)]
abbrev f45z6 : List (Nat × V) := [(0, .ptr 2000 0), (3, .ptr 3 0)]
abbrev f45z7 (r15 : Tq3) : List (Nat × V) := [(0, .ptr 2000 0), (3, .ptr 3 0), (4, .int .i64 r15.1)]
abbrev f45z8 (x3 : Int) (x5 : Int) : List V := [.int .i64 x3, .int .i64 x5]
def f45 (x1 : Int) (x2 : Int) (x3 : Int) (x4 : Int) (x5 : Int) (x6 : List UInt8) (x7 : List UInt8) (x8 : List Tq4) (x9 : List Tq3) (x10 : List (Tq0 × List UInt8)) (x11 : List Tq0) (x12 : List (Tq0 × List UInt8)) (x13 : List (Tq2 × Bool)) (x14 : List (Tq0 × Bool)) : Option ((List Tq4) × (List Tq3) × (List (Tq0 × List UInt8)) × (List Tq0) × (List (Tq0 × List UInt8)) × (List (Tq2 × Bool)) × (List (Tq0 × Bool))) :=
 jn (fun ((l19, l20, l21, l22) : (List Tq4) × (List Tq3) × (List (Tq0 × List UInt8)) × (List Tq0)) =>
 optc ((x2 == (1 : Int)) == true) (f57 x1 x2 x3 x4 x5 x6 x7) fun (r23 : Bool) =>
 if ((x2 == (1 : Int)) && r23) then (
 if (!(hM x12 (x3, x5))) then (
 some (l19, l20, l21, l22, (updM x12 (x3, x5) x6), (updM x13 (x3, x5, x6) true), x14)
 ) else (
 some (l19, l20, l21, l22, x12, (updM x13 (x3, x5, x6) true), x14)
 )
 ) else (
 optc ((x2 == (2 : Int)) == true) (f57 x1 x2 x3 x4 x5 x6 x7) fun (r24 : Bool) =>
 if ((x2 == (2 : Int)) && r24) then (
 some (l19, l20, l21, l22, x12, x13, (updM x14 (x3, x5) true))
 ) else (
 some (l19, l20, l21, l22, x12, x13, x14)
 )
 )
 ) fun (K1 : ((List Tq4) × (List Tq3) × (List (Tq0 × List UInt8)) × (List Tq0)) → Option ((List Tq4) × (List Tq3) × (List (Tq0 × List UInt8)) × (List Tq0) × (List (Tq0 × List UInt8)) × (List (Tq2 × Bool)) × (List (Tq0 × Bool)))) =>
 (f50 x1 x2 x3 x4 x5 x6 x7).bind fun (r15 : Tq3) =>
 if r15.2 then (
 jn (fun ((l16, l17) : (List Tq4) × (List Tq3)) =>
 jn (fun (l18 : List (Tq0 × List UInt8)) =>
 if (x2 == (3 : Int)) then (
 chk (-9223372036854775808 ≤ ((gM x11 (0 : Int) x3) + (1 : Int)) ∧ ((gM x11 (0 : Int) x3) + (1 : Int)) ≤ 9223372036854775807) <|
 K1 (l16, l17, l18, (updM x11 x3 ((gM x11 (0 : Int) x3) + (1 : Int))))
 ) else (
 K1 (l16, l17, l18, x11)
 )
 ) fun (K3 : (List (Tq0 × List UInt8)) → Option ((List Tq4) × (List Tq3) × (List (Tq0 × List UInt8)) × (List Tq0) × (List (Tq0 × List UInt8)) × (List (Tq2 × Bool)) × (List (Tq0 × Bool)))) =>
 if (!(hM x10 (r15.1, x4))) then (
 K3 (updM x10 (r15.1, x4) x6)
 ) else (
 K3 x10
 )
 ) fun (K2 : ((List Tq4) × (List Tq3)) → Option ((List Tq4) × (List Tq3) × (List (Tq0 × List UInt8)) × (List Tq0) × (List (Tq0 × List UInt8)) × (List (Tq2 × Bool)) × (List (Tq0 × Bool)))) =>
 if (!(hM x8 x4)) then (
 K2 ((updM x8 x4 x6), x9)
 ) else (
 if (!((gM x8 [] x4) == x6)) then (
 K2 (x8, (updM x9 x4 true))
 ) else (
 K2 (x8, x9)
 )
 )
 ) else (
 K1 (x8, x9, x10, x11)
 )
theorem f45_ok  (x1 : Int) (x2 : Int) (x3 : Int) (x4 : Int) (x5 : Int) (x6 : List UInt8) (x7 : List UInt8) (x8 : List Tq4) (x9 : List Tq3) (x10 : List (Tq0 × List UInt8)) (x11 : List Tq0) (x12 : List (Tq0 × List UInt8)) (x13 : List (Tq2 × Bool)) (x14 : List (Tq0 × Bool)) (r : (List Tq4) × (List Tq3) × (List (Tq0 × List UInt8)) × (List Tq0) × (List (Tq0 × List UInt8)) × (List (Tq2 × Bool)) × (List (Tq0 × Bool))) (h : f45 x1 x2 x3 x4 x5 x6 x7 x8 x9 x10 x11 x12 x13 x14 = some r)  : Spec1 Tryz.prog 45 [] [2000] [(2000, .cells 115 [.own 2001, .own 2002, .own 2003, .own 2004, .own 2005, .own 2006, .own 2007]), (2001, bP (V.int .i64) 0 m108 [] x8), (2002, bP (V.int .i64) 0 m109 false x9), (2003, bP mk110E (default : Tq0) m110 [] x10), (2004, bP (V.int .i64) 0 m111 0 x11), (2005, bP mk110E (default : Tq0) m110 [] x12), (2006, bP mk112E (default : Tq2) m112 false x13), (2007, bP mk113E (default : Tq0) m113 false x14)] [.ptr 2000 0, .agg [.int .i64 x1, .int .i64 x2, .int .i64 x3, .int .i64 x4, .int .i64 x5, .str x6, .str x7, .opq, .opq, .opq, .opq, .opq, .opq, .opq, .opq, .opq, .opq, .opq, .opq, .opq, .opq, .opq, .opq, .opq, .opq, .opq, .opq, .opq]] (.tup []) [(2000, .cells 115 [.own 2001, .own 2002, .own 2003, .own 2004, .own 2005, .own 2006, .own 2007]), (2001, bP (V.int .i64) 0 m108 [] r.1), (2002, bP (V.int .i64) 0 m109 false r.2.1), (2003, bP mk110E (default : Tq0) m110 [] r.2.2.1), (2004, bP (V.int .i64) 0 m111 0 r.2.2.2.1), (2005, bP mk110E (default : Tq0) m110 [] r.2.2.2.2.1), (2006, bP mk112E (default : Tq2) m112 false r.2.2.2.2.2.1), (2007, bP mk113E (default : Tq0) m113 false r.2.2.2.2.2.2)] := by
 unfold f45 at h
 refine Spec1.body 0 _ _ Tryz.func45 rfl Tryz.ntmps45 rfl rfl ?_
 refine q1rq [] [] ⟨139, (f45z6), (f45z1 x1 x2 x3 x4 x5 x6 x7 x8 x9 x10 x11 x12 x13 x14), [2000], 0⟩ trivial ?_
 obtain ⟨K1, hK1, h⟩ := jn_some h
 refine AWp.join (α := (List Tq4) × (List Tq3) × (List (Tq0 × List UInt8)) × (List Tq0)) (fun (x : (List Tq4) × (List Tq3) × (List (Tq0 × List UInt8)) × (List Tq0)) => match x with | (l19, l20, l21, l22) => ⟨139, (f45z6), [(3, .cells 51 (f45z0 x1 x2 x3 x4 x5 x6 x7)), (2000, .cells 115 (f45z2)), (2001, bP (V.int .i64) 0 m108 [] l19), (2002, bP (V.int .i64) 0 m109 false l20), (2003, bP mk110E q1dII m110 [] l21), (2004, bP (V.int .i64) 0 m111 0 l22), (2005, bP mk110E q1dII m110 [] x12), (2006, bP mk112E q1dIIS m112 false x13), (2007, bP mk113E q1dII m113 false x14)], [2000], 0⟩) (fun x => K1 x = some r) ?_ ?_
 ·
  refine AWp.seq ?_
  obtain ⟨r15, hr15, h⟩ := bind_ok h
  refine q1rr [] [(1, ⟨[.agg (f45z0 x1 x2 x3 x4 x5 x6 x7)], [], [], [], .tup [.i r15.1, .bool r15.2], [], [], []⟩)] ⟨139, [(0, .ptr 2000 0), (3, .ptr 3 0), (4, .i r15.1), (5, .bool r15.2)], (f45z1 x1 x2 x3 x4 x5 x6 x7 x8 x9 x10 x11 x12 x13 x14), [2000], 0⟩ (an1 (cpT (f50_ok _ _ _ _ _ _ _ _ hr15))) ?_
  refine tN ?_
  refine q1rq [] [] ⟨139, [(0, .ptr 2000 0), (3, .ptr 3 0), (4, .i r15.1), (18, .bool r15.2)], (f45z1 x1 x2 x3 x4 x5 x6 x7 x8 x9 x10 x11 x12 x13 x14), [2000], 0⟩ trivial ?_
  refine AWp.cond (b := r15.2) (by kernel_rfl) (fun hc1 => ?_) (fun hc1 => ?_)
  ·
   replace h := ite_tb hc1 h
   obtain ⟨K2, hK2, h⟩ := jn_some h
   refine AWp.join (α := (List Tq4) × (List Tq3)) (fun (x : (List Tq4) × (List Tq3)) => match x with | (l16, l17) => ⟨139, (f45z7 r15), (f45z3 x1 x2 x3 x4 x5 x6 x7 l16 l17 x10 x11 x12 x13 x14), [2000], 0⟩) (fun x => K2 x = some r) ?_ ?_
   ·
    refine q1rq [] [(6, ⟨[.own 2001, .i x4], [2001], [2001], [(2001, bP (V.int .i64) 0 m108 [] x8)], .tup [.str (gM x8 [] x4), .bool (hM x8 x4)], [], [], []⟩)] ⟨139, [(0, .ptr 2000 0), (3, .ptr 3 0), (4, .i r15.1), (6, .str (gM x8 [] x4)), (7, .bool (hM x8 x4))], (f45z1 x1 x2 x3 x4 x5 x6 x7 x8 x9 x10 x11 x12 x13 x14), [2000], 0⟩ (an1 (And.intro (lookP_spec (P := Tryz.prog) Tryz.underlying108 (V.int .i64) kE108 0 m108 [] [] (by kernel_rfl) (.tmp 23) (.tmp 25) 118 2001 x8 x4) (VLes.same [.own 2001, .i x4]))) ?_
    refine q1rq [] [] ⟨139, [(0, .ptr 2000 0), (3, .ptr 3 0), (4, .i r15.1), (6, .str (gM x8 [] x4)), (30, .bool (!(hM x8 x4)))], (f45z1 x1 x2 x3 x4 x5 x6 x7 x8 x9 x10 x11 x12 x13 x14), [2000], 0⟩ trivial ?_
    refine AWp.cond (b := (!(hM x8 x4))) (by kernel_rfl) (fun hc2 => ?_) (fun hc2 => ?_)
    ·
     replace h := ite_tb hc2 h
     refine q1rr [] [(8, ⟨[.own 2001, .i x4, .str x6], [2001], [2001], [(2001, bP (V.int .i64) 0 m108 [] (updM x8 x4 x6))], .any, [], [], []⟩)] ⟨139, (f45z7 r15), [(3, .cells 51 (f45z0 x1 x2 x3 x4 x5 x6 x7)), (2000, .cells 115 (f45z2)), (2001, bP (V.int .i64) 0 m108 [] (updM x8 x4 x6)), (2002, bP (V.int .i64) 0 m109 false x9), (2003, bP mk110E q1dII m110 [] x10), (2004, bP (V.int .i64) 0 m111 0 x11), (2005, bP mk110E q1dII m110 [] x12), (2006, bP mk112E q1dIIS m112 false x13), (2007, bP mk113E q1dII m113 false x14)], [2000], 0⟩ (an1 (And.intro (updP_spec Tryz.underlying108 (V.int .i64) kE108 (.mapUpdate 108 (.tmp 34) (.tmp 36) (.tmp 38)) (.tmp 34) (.tmp 36) (.tmp 38) (.inr rfl) 0 m108 [] (fun _ => rfl) 0 2001 x8 x4 x6) (VLes.same [.own 2001, .i x4, .str x6]))) ?_
     exact jN ((updM x8 x4 x6), x9) (Le.mk rfl rfl ⟨.refl _, .refl _, .refl _, trivial⟩ ⟨⟨_, rfl, .refl _⟩, ⟨_, rfl, .refl _⟩, ⟨_, rfl, .refl _⟩, ⟨_, rfl, .refl _⟩, ⟨_, rfl, .refl _⟩, ⟨_, rfl, .refl _⟩, ⟨_, rfl, .refl _⟩, ⟨_, rfl, .refl _⟩, ⟨_, rfl, .refl _⟩, trivial⟩) h
    ·
     replace h := ite_fb hc2 h
     refine q1rq [] [] ⟨139, [(0, .ptr 2000 0), (3, .ptr 3 0), (4, .i r15.1), (42, .bool (!((gM x8 [] x4) == x6)))], (f45z1 x1 x2 x3 x4 x5 x6 x7 x8 x9 x10 x11 x12 x13 x14), [2000], 0⟩ trivial ?_
     refine AWp.cond (b := (!((gM x8 [] x4) == x6))) (by kernel_rfl) (fun hc3 => ?_) (fun hc3 => ?_)
     ·
      replace h := ite_tb hc3 h
      refine q1rr [] [(6, ⟨[.own 2002, .i x4, .bool true], [2002], [2002], [(2002, bP (V.int .i64) 0 m109 false (updM x9 x4 true))], .any, [], [], []⟩)] ⟨139, (f45z7 r15), [(3, .cells 51 (f45z0 x1 x2 x3 x4 x5 x6 x7)), (2000, .cells 115 (f45z2)), (2001, bP (V.int .i64) 0 m108 [] x8), (2002, bP (V.int .i64) 0 m109 false (updM x9 x4 true)), (2003, bP mk110E q1dII m110 [] x10), (2004, bP (V.int .i64) 0 m111 0 x11), (2005, bP mk110E q1dII m110 [] x12), (2006, bP mk112E q1dIIS m112 false x13), (2007, bP mk113E q1dII m113 false x14)], [2000], 0⟩ (an1 (And.intro (updP_spec Tryz.underlying109 (V.int .i64) kE109 (.mapUpdate 109 (.tmp 46) (.tmp 48) (.const (.bool true))) (.tmp 46) (.tmp 48) (.const (.bool true)) (.inr rfl) 0 m109 false (fun _ => rfl) 0 2002 x9 x4 true) (VLes.same [.own 2002, .i x4, .bool true]))) ?_
      exact jN (x8, (updM x9 x4 true)) (Le.mk rfl rfl ⟨.refl _, .refl _, .refl _, trivial⟩ ⟨⟨_, rfl, .refl _⟩, ⟨_, rfl, .refl _⟩, ⟨_, rfl, .refl _⟩, ⟨_, rfl, .refl _⟩, ⟨_, rfl, .refl _⟩, ⟨_, rfl, .refl _⟩, ⟨_, rfl, .refl _⟩, ⟨_, rfl, .refl _⟩, ⟨_, rfl, .refl _⟩, trivial⟩) h
     ·
      replace h := ite_fb hc3 h
      refine AWp.skip ?_
      exact jN (x8, x9) (Le.mk rfl rfl ⟨.refl _, .refl _, .refl _, trivial⟩ ⟨⟨_, rfl, .refl _⟩, ⟨_, rfl, .refl _⟩, ⟨_, rfl, .refl _⟩, ⟨_, rfl, .refl _⟩, ⟨_, rfl, .refl _⟩, ⟨_, rfl, .refl _⟩, ⟨_, rfl, .refl _⟩, ⟨_, rfl, .refl _⟩, ⟨_, rfl, .refl _⟩, trivial⟩) h
   ·
    rintro ⟨l16, l17⟩ h
    replace h := (congrFun hK2 _).symm.trans h
    obtain ⟨K3, hK3, h⟩ := jn_some h
    refine AWp.join (α := List (Tq0 × List UInt8)) (fun (l18 : List (Tq0 × List UInt8)) => ⟨139, (f45z6), (f45z5 x1 x2 x3 x4 x5 x6 x7 l16 l17 l18 x11 x12 x13 x14), [2000], 0⟩) (fun x => K3 x = some r) ?_ ?_
    ·
     refine q1rq [] [(8, ⟨[.own 2003, .agg [.i r15.1, .i x4]], [2003], [2003], [(2003, bP mk110E q1dII m110 [] x10)], .tup [.str (gM x10 [] (r15.1, x4)), .bool (hM x10 (r15.1, x4))], [], [], []⟩)] ⟨139, [(0, .ptr 2000 0), (3, .ptr 3 0), (4, .i r15.1), (9, .bool (hM x10 (r15.1, x4)))], (f45z3 x1 x2 x3 x4 x5 x6 x7 l16 l17 x10 x11 x12 x13 x14), [2000], 0⟩ (an1 (And.intro (lookP_spec (P := Tryz.prog) Tryz.underlying110 mk110E kE110 q1dII m110 [] [] (by kernel_rfl) (.tmp 53) (.tmp 57) 118 2003 x10 (r15.1, x4)) (VLes.same [.own 2003, .agg [.i r15.1, .i x4]]))) ?_
     refine q1rq [] [] ⟨139, [(0, .ptr 2000 0), (3, .ptr 3 0), (4, .i r15.1), (62, .bool (!(hM x10 (r15.1, x4))))], (f45z3 x1 x2 x3 x4 x5 x6 x7 l16 l17 x10 x11 x12 x13 x14), [2000], 0⟩ trivial ?_
     refine AWp.cond (b := (!(hM x10 (r15.1, x4)))) (by kernel_rfl) (fun hc4 => ?_) (fun hc4 => ?_)
     ·
      replace h := ite_tb hc4 h
      refine q1rr [] [(10, ⟨[.own 2003, .agg [.i r15.1, .i x4], .str x6], [2003], [2003], [(2003, bP mk110E q1dII m110 [] (updM x10 (r15.1, x4) x6))], .any, [], [], []⟩)] ⟨139, (f45z6), [(3, .cells 51 (f45z0 x1 x2 x3 x4 x5 x6 x7)), (2000, .cells 115 (f45z2)), (2001, bP (V.int .i64) 0 m108 [] l16), (2002, bP (V.int .i64) 0 m109 false l17), (2003, bP mk110E q1dII m110 [] (updM x10 (r15.1, x4) x6)), (2004, bP (V.int .i64) 0 m111 0 x11), (2005, bP mk110E q1dII m110 [] x12), (2006, bP mk112E q1dIIS m112 false x13), (2007, bP mk113E q1dII m113 false x14)], [2000], 0⟩ (an1 (And.intro (updP_spec Tryz.underlying110 mk110E kE110 (.mapUpdate 110 (.tmp 66) (.tmp 70) (.tmp 72)) (.tmp 66) (.tmp 70) (.tmp 72) (.inr rfl) q1dII m110 [] (fun _ => rfl) 0 2003 x10 (r15.1, x4) x6) (VLes.same [.own 2003, .agg [.i r15.1, .i x4], .str x6]))) ?_
      exact jN ((updM x10 (r15.1, x4) x6)) (Le.mk rfl rfl ⟨.refl _, .refl _, trivial⟩ ⟨⟨_, rfl, .refl _⟩, ⟨_, rfl, .refl _⟩, ⟨_, rfl, .refl _⟩, ⟨_, rfl, .refl _⟩, ⟨_, rfl, .refl _⟩, ⟨_, rfl, .refl _⟩, ⟨_, rfl, .refl _⟩, ⟨_, rfl, .refl _⟩, ⟨_, rfl, .refl _⟩, trivial⟩) h
     ·
      replace h := ite_fb hc4 h
      refine AWp.skip ?_
      exact jN (x10) (Le.mk rfl rfl ⟨.refl _, .refl _, trivial⟩ ⟨⟨_, rfl, .refl _⟩, ⟨_, rfl, .refl _⟩, ⟨_, rfl, .refl _⟩, ⟨_, rfl, .refl _⟩, ⟨_, rfl, .refl _⟩, ⟨_, rfl, .refl _⟩, ⟨_, rfl, .refl _⟩, ⟨_, rfl, .refl _⟩, ⟨_, rfl, .refl _⟩, trivial⟩) h
    ·
     rintro l18 h
     replace h := (congrFun hK3 _).symm.trans h
     refine q1rq [] [] ⟨139, [(0, .ptr 2000 0), (3, .ptr 3 0), (75, .bool (x2 == (3 : Int)))], (f45z5 x1 x2 x3 x4 x5 x6 x7 l16 l17 l18 x11 x12 x13 x14), [2000], 0⟩ trivial ?_
     refine AWp.cond (b := (x2 == (3 : Int))) (by kernel_rfl) (fun hc5 => ?_) (fun hc5 => ?_)
     ·
      replace h := ite_tb hc5 h
      obtain ⟨ob0, h⟩ := chk_some h
      refine q1rr [] [(6, ⟨[.own 2004, .i x3], [2004], [2004], [(2004, bP (V.int .i64) 0 m111 0 x11)], .i (gM x11 (0 : Int) x3), [], [], []⟩), (8, ⟨[.own 2004, .i x3, .i ((gM x11 (0 : Int) x3) + (1 : Int))], [2004], [2004], [(2004, bP (V.int .i64) 0 m111 0 (updM x11 x3 ((gM x11 (0 : Int) x3) + (1 : Int))))], .any, [], [], []⟩)] ⟨139, (f45z6), [(3, .cells 51 (f45z0 x1 x2 x3 x4 x5 x6 x7)), (2000, .cells 115 (f45z2)), (2001, bP (V.int .i64) 0 m108 [] l16), (2002, bP (V.int .i64) 0 m109 false l17), (2003, bP mk110E q1dII m110 [] l18), (2004, bP (V.int .i64) 0 m111 0 (updM x11 x3 ((gM x11 (0 : Int) x3) + (1 : Int)))), (2005, bP mk110E q1dII m110 [] x12), (2006, bP mk112E q1dIIS m112 false x13), (2007, bP mk113E q1dII m113 false x14)], [2000], 0⟩ (an3 (And.intro (lookP1_spec (P := Tryz.prog) Tryz.underlying111 (V.int .i64) kE111 0 m111 0 (0 : Int) (by kernel_rfl) (.tmp 79) (.tmp 81) 3 2004 x11 x3) (VLes.same [.own 2004, .i x3])) ob0 (And.intro (updP_spec Tryz.underlying111 (V.int .i64) kE111 (.mapUpdate 111 (.tmp 79) (.tmp 81) (.tmp 83)) (.tmp 79) (.tmp 81) (.tmp 83) (.inr rfl) 0 m111 0 (fun _ => rfl) 0 2004 x11 x3 ((gM x11 (0 : Int) x3) + (1 : Int))) (VLes.same [.own 2004, .i x3, .i ((gM x11 (0 : Int) x3) + (1 : Int))]))) ?_
      exact jN (l16, l17, l18, (updM x11 x3 ((gM x11 (0 : Int) x3) + (1 : Int)))) (Le.mk rfl rfl ⟨.refl _, .refl _, trivial⟩ ⟨⟨_, rfl, .refl _⟩, ⟨_, rfl, .refl _⟩, ⟨_, rfl, .refl _⟩, ⟨_, rfl, .refl _⟩, ⟨_, rfl, .refl _⟩, ⟨_, rfl, .refl _⟩, ⟨_, rfl, .refl _⟩, ⟨_, rfl, .refl _⟩, ⟨_, rfl, .refl _⟩, trivial⟩) h
     ·
      replace h := ite_fb hc5 h
      refine AWp.skip ?_
      exact jN (l16, l17, l18, x11) (Le.mk rfl rfl ⟨.refl _, .refl _, trivial⟩ ⟨⟨_, rfl, .refl _⟩, ⟨_, rfl, .refl _⟩, ⟨_, rfl, .refl _⟩, ⟨_, rfl, .refl _⟩, ⟨_, rfl, .refl _⟩, ⟨_, rfl, .refl _⟩, ⟨_, rfl, .refl _⟩, ⟨_, rfl, .refl _⟩, ⟨_, rfl, .refl _⟩, trivial⟩) h
  ·
   replace h := ite_fb hc1 h
   refine AWp.skip ?_
   exact jN (x8, x9, x10, x11) (Le.mk rfl rfl ⟨.refl _, .refl _, trivial⟩ ⟨⟨_, rfl, .refl _⟩, ⟨_, rfl, .refl _⟩, ⟨_, rfl, .refl _⟩, ⟨_, rfl, .refl _⟩, ⟨_, rfl, .refl _⟩, ⟨_, rfl, .refl _⟩, ⟨_, rfl, .refl _⟩, ⟨_, rfl, .refl _⟩, ⟨_, rfl, .refl _⟩, trivial⟩) h
 ·
  rintro ⟨l19, l20, l21, l22⟩ h
  replace h := (congrFun hK1 _).symm.trans h
  refine q1rq [] [] ⟨139, [(0, .ptr 2000 0), (3, .ptr 3 0), (10, .ptr 10 0)], [(3, .cells 51 (f45z0 x1 x2 x3 x4 x5 x6 x7)), (10, .cells 145 (f45z8 x3 x5)), (2000, .cells 115 (f45z2)), (2001, bP (V.int .i64) 0 m108 [] l19), (2002, bP (V.int .i64) 0 m109 false l20), (2003, bP mk110E q1dII m110 [] l21), (2004, bP (V.int .i64) 0 m111 0 l22), (2005, bP mk110E q1dII m110 [] x12), (2006, bP mk112E q1dIIS m112 false x13), (2007, bP mk113E q1dII m113 false x14)], [2000], 0⟩ (an1 trivial) ?_
  refine AWp.block ?_
  refine AWp.seq ?_
  obtain ⟨r23, hr23, h⟩ := optc_some h
  have ob1 := idA (((x2 == (1 : Int)) == true) = true)
  have ob2 := bqA (x2 == (1 : Int)) true
  refine q1rr [] [(5, ⟨[.agg (f45z0 x1 x2 x3 x4 x5 x6 x7)], [], [], [], .bool r23, [], [], []⟩)] ⟨139, [(0, .ptr 2000 0), (3, .ptr 3 0), (10, .ptr 10 0), (89, .bool ((x2 == (1 : Int)) && r23))], [(3, .cells 51 (f45z0 x1 x2 x3 x4 x5 x6 x7)), (10, .cells 145 (f45z8 x3 x5)), (2000, .cells 115 (f45z2)), (2001, bP (V.int .i64) 0 m108 [] l19), (2002, bP (V.int .i64) 0 m109 false l20), (2003, bP mk110E q1dII m110 [] l21), (2004, bP (V.int .i64) 0 m111 0 l22), (2005, bP mk110E q1dII m110 [] x12), (2006, bP mk112E q1dIIS m112 false x13), (2007, bP mk113E q1dII m113 false x14)], [2000], 0⟩ (an2 (And.intro (cpC fun hc => (f57_ok _ _ _ _ _ _ _ _ (hr23 hc))) (an1 ob1)) ob2) ?_
  refine tN ?_
  refine AWp.cond (b := ((x2 == (1 : Int)) && r23)) (by kernel_rfl) (fun hc6 => ?_) (fun hc6 => ?_)
  ·
   replace h := ite_tb hc6 h
   refine q1rq [] [(11, ⟨[.own 2006, .agg [.i x3, .i x5, .str x6], .bool true], [2006], [2006], [(2006, bP mk112E q1dIIS m112 false (updM x13 (x3, x5, x6) true))], .any, [], [], []⟩)] ⟨139, [(0, .ptr 2000 0), (3, .ptr 3 0), (10, .ptr 10 0)], (f45z4 x1 x2 x3 x4 x5 x6 x7 l19 l20 l21 l22 x12 x13 x14), [2000], 0⟩ (an1 (And.intro (updP_spec Tryz.underlying112 mk112E kE112 (.mapUpdate 112 (.tmp 100) (.tmp 107) (.const (.bool true))) (.tmp 100) (.tmp 107) (.const (.bool true)) (.inr rfl) q1dIIS m112 false (fun _ => rfl) 0 2006 x13 (x3, x5, x6) true) (VLes.same [.own 2006, .agg [.i x3, .i x5, .str x6], .bool true]))) ?_
   refine q1rq [] [(5, ⟨[.own 2005, .agg (f45z8 x3 x5)], [2005], [2005], [(2005, bP mk110E q1dII m110 [] x12)], .tup [.str (gM x12 [] (x3, x5)), .bool (hM x12 (x3, x5))], [], [], []⟩)] ⟨139, [(0, .ptr 2000 0), (3, .ptr 3 0), (10, .ptr 10 0), (12, .bool (hM x12 (x3, x5)))], (f45z4 x1 x2 x3 x4 x5 x6 x7 l19 l20 l21 l22 x12 x13 x14), [2000], 0⟩ (an1 (And.intro (lookP_spec (P := Tryz.prog) Tryz.underlying110 mk110E kE110 q1dII m110 [] [] (by kernel_rfl) (.tmp 112) (.tmp 113) 118 2005 x12 (x3, x5)) (VLes.same [.own 2005, .agg (f45z8 x3 x5)]))) ?_
   refine q1rq [] [] ⟨139, [(0, .ptr 2000 0), (3, .ptr 3 0), (10, .ptr 10 0), (118, .bool (!(hM x12 (x3, x5))))], (f45z4 x1 x2 x3 x4 x5 x6 x7 l19 l20 l21 l22 x12 x13 x14), [2000], 0⟩ trivial ?_
   refine AWp.cond (b := (!(hM x12 (x3, x5)))) (by kernel_rfl) (fun hc7 => ?_) (fun hc7 => ?_)
   ·
    replace h := ite_tb hc7 h
    refine q1rr [] [(7, ⟨[.own 2005, .agg (f45z8 x3 x5), .str x6], [2005], [2005], [(2005, bP mk110E q1dII m110 [] (updM x12 (x3, x5) x6))], .any, [], [], []⟩)] ⟨139, [], [(2000, .cells 115 (f45z2)), (2001, bP (V.int .i64) 0 m108 [] l19), (2002, bP (V.int .i64) 0 m109 false l20), (2003, bP mk110E q1dII m110 [] l21), (2004, bP (V.int .i64) 0 m111 0 l22), (2005, bP mk110E q1dII m110 [] (updM x12 (x3, x5) x6)), (2006, bP mk112E q1dIIS m112 false (updM x13 (x3, x5, x6) true)), (2007, bP mk113E q1dII m113 false x14)], [2000], 0⟩ (an1 (And.intro (updP_spec Tryz.underlying110 mk110E kE110 (.mapUpdate 110 (.tmp 122) (.tmp 123) (.tmp 125)) (.tmp 122) (.tmp 123) (.tmp 125) (.inr rfl) q1dII m110 [] (fun _ => rfl) 0 2005 x12 (x3, x5) x6) (VLes.same [.own 2005, .agg (f45z8 x3 x5), .str x6]))) ?_
    refine kN ?_
    have hret := Option.some.inj h
    subst hret
    exact bodyQ_le (Le.mk (s' := ⟨139, [], [(2000, .cells 115 (f45z2)), (2001, bP (V.int .i64) 0 m108 [] l19), (2002, bP (V.int .i64) 0 m109 false l20), (2003, bP mk110E q1dII m110 [] l21), (2004, bP (V.int .i64) 0 m111 0 l22), (2005, bP mk110E q1dII m110 [] (updM x12 (x3, x5) x6)), (2006, bP mk112E q1dIIS m112 false (updM x13 (x3, x5, x6) true)), (2007, bP mk113E q1dII m113 false x14)], [2000], 0⟩) rfl rfl trivial ⟨⟨_, rfl, .refl _⟩, ⟨_, rfl, .refl _⟩, ⟨_, rfl, .refl _⟩, ⟨_, rfl, .refl _⟩, ⟨_, rfl, .refl _⟩, ⟨_, rfl, .refl _⟩, ⟨_, rfl, .refl _⟩, ⟨_, rfl, .refl _⟩, trivial⟩) (bodyQ_normal _ rfl ⟨rfl, rfl⟩ rfl)
   ·
    replace h := ite_fb hc7 h
    refine AWp.skip ?_
    refine kN ?_
    have hret := Option.some.inj h
    subst hret
    exact bodyQ_le (Le.mk (s' := ⟨139, [], [(2000, .cells 115 (f45z2)), (2001, bP (V.int .i64) 0 m108 [] l19), (2002, bP (V.int .i64) 0 m109 false l20), (2003, bP mk110E q1dII m110 [] l21), (2004, bP (V.int .i64) 0 m111 0 l22), (2005, bP mk110E q1dII m110 [] x12), (2006, bP mk112E q1dIIS m112 false (updM x13 (x3, x5, x6) true)), (2007, bP mk113E q1dII m113 false x14)], [2000], 0⟩) rfl rfl trivial ⟨⟨_, rfl, .refl _⟩, ⟨_, rfl, .refl _⟩, ⟨_, rfl, .refl _⟩, ⟨_, rfl, .refl _⟩, ⟨_, rfl, .refl _⟩, ⟨_, rfl, .refl _⟩, ⟨_, rfl, .refl _⟩, ⟨_, rfl, .refl _⟩, trivial⟩) (bodyQ_normal _ rfl ⟨rfl, rfl⟩ rfl)
  ·
   replace h := ite_fb hc6 h
   refine AWp.seq ?_
   obtain ⟨r24, hr24, h⟩ := optc_some h
   have ob3 := idA (((x2 == (2 : Int)) == true) = true)
   have ob4 := bqA (x2 == (2 : Int)) true
   refine q1rr [] [(5, ⟨[.agg (f45z0 x1 x2 x3 x4 x5 x6 x7)], [], [], [], .bool r24, [], [], []⟩)] ⟨139, [(0, .ptr 2000 0), (10, .ptr 10 0), (126, .bool ((x2 == (2 : Int)) && r24))], [(10, .cells 145 (f45z8 x3 x5)), (2000, .cells 115 (f45z2)), (2001, bP (V.int .i64) 0 m108 [] l19), (2002, bP (V.int .i64) 0 m109 false l20), (2003, bP mk110E q1dII m110 [] l21), (2004, bP (V.int .i64) 0 m111 0 l22), (2005, bP mk110E q1dII m110 [] x12), (2006, bP mk112E q1dIIS m112 false x13), (2007, bP mk113E q1dII m113 false x14)], [2000], 0⟩ (an2 (And.intro (cpC fun hc => (f57_ok _ _ _ _ _ _ _ _ (hr24 hc))) (an1 ob3)) ob4) ?_
   refine tN ?_
   refine AWp.cond (b := ((x2 == (2 : Int)) && r24)) (by kernel_rfl) (fun hc8 => ?_) (fun hc8 => ?_)
   ·
    replace h := ite_tb hc8 h
    refine q1rr [] [(5, ⟨[.own 2007, .agg (f45z8 x3 x5), .bool true], [2007], [2007], [(2007, bP mk113E q1dII m113 false (updM x14 (x3, x5) true))], .any, [], [], []⟩)] ⟨139, [], [(2000, .cells 115 (f45z2)), (2001, bP (V.int .i64) 0 m108 [] l19), (2002, bP (V.int .i64) 0 m109 false l20), (2003, bP mk110E q1dII m110 [] l21), (2004, bP (V.int .i64) 0 m111 0 l22), (2005, bP mk110E q1dII m110 [] x12), (2006, bP mk112E q1dIIS m112 false x13), (2007, bP mk113E q1dII m113 false (updM x14 (x3, x5) true))], [2000], 0⟩ (an1 (And.intro (updP_spec Tryz.underlying113 mk113E kE113 (.mapUpdate 113 (.tmp 137) (.tmp 138) (.const (.bool true))) (.tmp 137) (.tmp 138) (.const (.bool true)) (.inr rfl) q1dII m113 false (fun _ => rfl) 0 2007 x14 (x3, x5) true) (VLes.same [.own 2007, .agg (f45z8 x3 x5), .bool true]))) ?_
    refine kN ?_
    have hret := Option.some.inj h
    subst hret
    exact bodyQ_le (Le.mk (s' := ⟨139, [], [(2000, .cells 115 (f45z2)), (2001, bP (V.int .i64) 0 m108 [] l19), (2002, bP (V.int .i64) 0 m109 false l20), (2003, bP mk110E q1dII m110 [] l21), (2004, bP (V.int .i64) 0 m111 0 l22), (2005, bP mk110E q1dII m110 [] x12), (2006, bP mk112E q1dIIS m112 false x13), (2007, bP mk113E q1dII m113 false (updM x14 (x3, x5) true))], [2000], 0⟩) rfl rfl trivial ⟨⟨_, rfl, .refl _⟩, ⟨_, rfl, .refl _⟩, ⟨_, rfl, .refl _⟩, ⟨_, rfl, .refl _⟩, ⟨_, rfl, .refl _⟩, ⟨_, rfl, .refl _⟩, ⟨_, rfl, .refl _⟩, ⟨_, rfl, .refl _⟩, trivial⟩) (bodyQ_normal _ rfl ⟨rfl, rfl⟩ rfl)
   ·
    replace h := ite_fb hc8 h
    refine AWp.skip ?_
    refine kN ?_
    have hret := Option.some.inj h
    subst hret
    exact bodyQ_le (Le.mk (s' := ⟨139, [], [(2000, .cells 115 (f45z2)), (2001, bP (V.int .i64) 0 m108 [] l19), (2002, bP (V.int .i64) 0 m109 false l20), (2003, bP mk110E q1dII m110 [] l21), (2004, bP (V.int .i64) 0 m111 0 l22), (2005, bP mk110E q1dII m110 [] x12), (2006, bP mk112E q1dIIS m112 false x13), (2007, bP mk113E q1dII m113 false x14)], [2000], 0⟩) rfl rfl trivial ⟨⟨_, rfl, .refl _⟩, ⟨_, rfl, .refl _⟩, ⟨_, rfl, .refl _⟩, ⟨_, rfl, .refl _⟩, ⟨_, rfl, .refl _⟩, ⟨_, rfl, .refl _⟩, ⟨_, rfl, .refl _⟩, ⟨_, rfl, .refl _⟩, trivial⟩) (bodyQ_normal _ rfl ⟨rfl, rfl⟩ rfl)
def f41_L0 (x1 : List Y51) (K1 : Int → Option Tq6) : Nat → (Nat × Int × (List Tq4) × (List Tq3) × (List (Tq0 × List UInt8)) × (List Tq0) × (List (Tq0 × List UInt8)) × (List (Tq2 × Bool)) × (List (Tq0 × Bool))) → Option Tq6
 | 0, _ => none
 | k + 1, (n4, i5, l6, l7, l8, l9, l10, l11, l12) =>
  if (decide ((n4 : Int) < (((x1).length : Nat) : Int))) then (
  chk ((n4 : Int) < (((x1).length : Nat) : Int)) <|
  (f42 ((x1.getD n4 (default : Y51)).1) ((x1.getD n4 (default : Y51)).2.1) ((x1.getD n4 (default : Y51)).2.2.1) ((x1.getD n4 (default : Y51)).2.2.2.1) ((x1.getD n4 (default : Y51)).2.2.2.2.1) ((x1.getD n4 (default : Y51)).2.2.2.2.2.1) ((x1.getD n4 (default : Y51)).2.2.2.2.2.2) l6 l7 l8 l9 l10 l11 l12 i5).bind fun (r13 : Bool × (List Tq4) × (List Tq3) × (List (Tq0 × List UInt8)) × (List Tq0) × (List (Tq0 × List UInt8)) × (List (Tq2 × Bool)) × (List (Tq0 × Bool)) × Int) =>
  if r13.1 then (
  some ((n4 : Int), (0 : Int), r13.2.2.2.2.2.2.2.2)
  ) else (
  (f45 ((x1.getD n4 (default : Y51)).1) ((x1.getD n4 (default : Y51)).2.1) ((x1.getD n4 (default : Y51)).2.2.1) ((x1.getD n4 (default : Y51)).2.2.2.1) ((x1.getD n4 (default : Y51)).2.2.2.2.1) ((x1.getD n4 (default : Y51)).2.2.2.2.2.1) ((x1.getD n4 (default : Y51)).2.2.2.2.2.2) r13.2.1 r13.2.2.1 r13.2.2.2.1 r13.2.2.2.2.1 r13.2.2.2.2.2.1 r13.2.2.2.2.2.2.1 r13.2.2.2.2.2.2.2.1).bind fun (r14 : (List Tq4) × (List Tq3) × (List (Tq0 × List UInt8)) × (List Tq0) × (List (Tq0 × List UInt8)) × (List (Tq2 × Bool)) × (List (Tq0 × Bool))) =>
  chk (((n4 : Int) + (1 : Int)) ≤ 9223372036854775807) <|
  (f41_L0 x1 K1 k) ((n4 + 1), r13.2.2.2.2.2.2.2.2, r14.1, r14.2.1, r14.2.2.1, r14.2.2.2.1, r14.2.2.2.2.1, r14.2.2.2.2.2.1, r14.2.2.2.2.2.2)
  )
  ) else (
  K1 i5
  )
abbrev f41z0 : List V := [.own 6001, .own 6002, .own 6003, .own 6004, .own 6005, .own 6006, .own 6007]
abbrev f41z1 (x2 : Int) (r3 : (List Tq4) × (List Tq3) × (List (Tq0 × List UInt8)) × (List Tq0) × (List (Tq0 × List UInt8)) × (List (Tq2 × Bool)) × (List (Tq0 × Bool))) : Heap := [(6, .cells 115 (f41z0)), (2000, .cells 3 [.int .i64 x2]), (6001, bP (V.int .i64) 0 m108 [] r3.1), (6002, bP (V.int .i64) 0 m109 false r3.2.1), (6003, bP mk110E (default : Tq0) m110 [] r3.2.2.1), (6004, bP (V.int .i64) 0 m111 0 r3.2.2.2.1), (6005, bP mk110E (default : Tq0) m110 [] r3.2.2.2.2.1), (6006, bP mk112E (default : Tq2) m112 false r3.2.2.2.2.2.1), (6007, bP mk113E (default : Tq0) m113 false r3.2.2.2.2.2.2)]
abbrev f41z2 (r13 : Bool × (List Tq4) × (List Tq3) × (List (Tq0 × List UInt8)) × (List Tq0) × (List (Tq0 × List UInt8)) × (List (Tq2 × Bool)) × (List (Tq0 × Bool)) × Int) (r14 : (List Tq4) × (List Tq3) × (List (Tq0 × List UInt8)) × (List Tq0) × (List (Tq0 × List UInt8)) × (List (Tq2 × Bool)) × (List (Tq0 × Bool))) : Heap := [(6, .cells 115 (f41z0)), (2000, .cells 3 [.int .i64 r13.2.2.2.2.2.2.2.2]), (6001, bP (V.int .i64) 0 m108 [] r14.1), (6002, bP (V.int .i64) 0 m109 false r14.2.1), (6003, bP mk110E (default : Tq0) m110 [] r14.2.2.1), (6004, bP (V.int .i64) 0 m111 0 r14.2.2.2.1), (6005, bP mk110E (default : Tq0) m110 [] r14.2.2.2.2.1), (6006, bP mk112E (default : Tq2) m112 false r14.2.2.2.2.2.1), (6007, bP mk113E (default : Tq0) m113 false r14.2.2.2.2.2.2)]
def f41 (x1 : List Y51) (x2 : Int) : Option Tq6 :=
 (f44 ).bind fun (r3 : (List Tq4) × (List Tq3) × (List (Tq0 × List UInt8)) × (List Tq0) × (List (Tq0 × List UInt8)) × (List (Tq2 × Bool)) × (List (Tq0 × Bool))) =>
 jn (fun (i15 : Int) =>
 some ((0 : Int), (13 : Int), i15)
 ) fun (K1 : Int → Option Tq6) =>
 f41_L0 x1 K1 FUEL (0, x2, r3.1, r3.2.1, r3.2.2.1, r3.2.2.2.1, r3.2.2.2.2.1, r3.2.2.2.2.2.1, r3.2.2.2.2.2.2)
theorem f41_ok  (x1 : List Y51) (x2 : Int) (r : Tq6) (h : f41 x1 x2 = some r)  : Spec1 Tryz.prog 41 [(1, .tab .u64 Lib.pow10Tab), (2, errG), (3, errG)] [2000] [(2000, .cells 3 [.int .i64 x2])] [vL 28 eT51 (default : Y51) x1, .fn (.func 42) [.ptr 2000 0]] (.tup [.int .i64 r.1, .int .i64 r.2.1]) [(2000, .cells 3 [.int .i64 r.2.2])] := by
 unfold f41 at h
 refine Spec1.body 0 _ _ Tryz.func41 rfl Tryz.ntmps41 rfl rfl ?_
 refine q1rq [] [] ⟨24, [(0, q1aT51 x1), (1, .fn (.func 42) [.ptr 2000 0]), (1000001, .tab .u64 Lib.pow10Tab), (1000002, errG), (1000003, errG)], [(2000, .cells 3 [.i x2])], [2000], 0⟩ trivial ?_
 refine AWp.seq ?_
 obtain ⟨r3, hr3, h⟩ := bind_ok h
 refine q1rr [] [(0, ⟨[], [], [], [(6001, bP (V.int .i64) 0 m108 [] r3.1), (6002, bP (V.int .i64) 0 m109 false r3.2.1), (6003, bP mk110E q1dII m110 [] r3.2.2.1), (6004, bP (V.int .i64) 0 m111 0 r3.2.2.2.1), (6005, bP mk110E q1dII m110 [] r3.2.2.2.2.1), (6006, bP mk112E q1dIIS m112 false r3.2.2.2.2.2.1), (6007, bP mk113E q1dII m113 false r3.2.2.2.2.2.2)], .agg (f41z0), [6001, 6002, 6003, 6004, 6005, 6006, 6007], [], []⟩)] ⟨24, [(0, q1aT51 x1), (1, .fn (.func 42) [.ptr 2000 0]), (6, .ptr 6 0), (1000001, .tab .u64 Lib.pow10Tab), (1000002, errG), (1000003, errG)], (f41z1 x2 r3), [2000], 0⟩ (an2 (cpT (Spec1.ren (swapN 3006 6007) (swapN_inv 3006 6007) rfl (Spec1.ren (swapN 3005 6006) (swapN_inv 3005 6006) rfl (Spec1.ren (swapN 3004 6005) (swapN_inv 3004 6005) rfl (Spec1.ren (swapN 3003 6004) (swapN_inv 3003 6004) rfl (Spec1.ren (swapN 3002 6003) (swapN_inv 3002 6003) rfl (Spec1.ren (swapN 3001 6002) (swapN_inv 3001 6002) rfl (Spec1.ren (swapN 3000 6001) (swapN_inv 3000 6001) rfl (f44_ok _ hr3))))))))) trivial) ?_
 refine tN ?_
 obtain ⟨K1, hK1, h⟩ := jn_some h
 refine AWp.join (α := Int) (fun (i15 : Int) => ⟨24, [(1000001, .tab .u64 Lib.pow10Tab), (1000002, errG), (1000003, errG)], [(2000, .cells 3 [.i i15])], [2000], 0⟩) (fun x => K1 x = some r) ?_ ?_
 ·
  refine q1rq [] [] ⟨24, [(1, .fn (.func 42) [.ptr 2000 0]), (6, .ptr 6 0), (10, q1aT51 x1), (11, .i (lZ x1)), (12, .i (0 : Int)), (1000001, .tab .u64 Lib.pow10Tab), (1000002, errG), (1000003, errG)], (f41z1 x2 r3), [2000], 0⟩ trivial ?_
  refine AWp.block ?_
  refine AWp.loopL (α := Nat × (Nat × Int × (List Tq4) × (List Tq3) × (List (Tq0 × List UInt8)) × (List Tq0) × (List (Tq0 × List UInt8)) × (List (Tq2 × Bool)) × (List (Tq0 × Bool)))) (fun x => match x with | (_, n4, i5, l6, l7, l8, l9, l10, l11, l12) => ⟨24, [(1, .fn (.func 42) [.ptr 2000 0]), (6, .ptr 6 0), (10, q1aT51 x1), (11, .i (lZ x1)), (12, .i (n4 : Int)), (1000001, .tab .u64 Lib.pow10Tab), (1000002, errG), (1000003, errG)], [(6, .cells 115 (f41z0)), (2000, .cells 3 [.i i5]), (6001, bP (V.int .i64) 0 m108 [] l6), (6002, bP (V.int .i64) 0 m109 false l7), (6003, bP mk110E q1dII m110 [] l8), (6004, bP (V.int .i64) 0 m111 0 l9), (6005, bP mk110E q1dII m110 [] l10), (6006, bP mk112E q1dIIS m112 false l11), (6007, bP mk113E q1dII m113 false l12)], [2000], 0⟩) (fun x => f41_L0 x1 K1 x.1 x.2 = some r) (fun x => x.1) (FUEL, 0, x2, r3.1, r3.2.1, r3.2.2.1, r3.2.2.2.1, r3.2.2.2.2.1, r3.2.2.2.2.2.1, r3.2.2.2.2.2.2) (Le.mk (s' := ⟨24, [(1, .fn (.func 42) [.ptr 2000 0]), (6, .ptr 6 0), (10, q1aT51 x1), (11, .i (lZ x1)), (12, .i (0 : Int)), (1000001, .tab .u64 Lib.pow10Tab), (1000002, errG), (1000003, errG)], (f41z1 x2 r3), [2000], 0⟩) rfl rfl ⟨.refl _, .refl _, .refl _, .refl _, .refl _, .refl _, .refl _, .refl _, trivial⟩ ⟨⟨_, rfl, .refl _⟩, ⟨_, rfl, .refl _⟩, ⟨_, rfl, .refl _⟩, ⟨_, rfl, .refl _⟩, ⟨_, rfl, .refl _⟩, ⟨_, rfl, .refl _⟩, ⟨_, rfl, .refl _⟩, ⟨_, rfl, .refl _⟩, ⟨_, rfl, .refl _⟩, trivial⟩) h ?_
  rintro ⟨k0, n4, i5, l6, l7, l8, l9, l10, l11, l12⟩ h
  cases k0 with
  | zero => exact nomatch (show (none : Option Tq6) = some r from h)
  | succ k0 =>
  obtain ⟨C0, hC0⟩ : ∃ C, C = f41_L0 x1 K1 k0 := ⟨_, rfl⟩
  replace h := (f41_L0.eq_2 ..).symm.trans h
  try rw [← hC0] at h
  refine q1rq [] [] ⟨24, [(1, .fn (.func 42) [.ptr 2000 0]), (6, .ptr 6 0), (10, q1aT51 x1), (11, .i (lZ x1)), (12, .i (n4 : Int)), (13, .bool (decide ((n4 : Int) < (lZ x1)))), (1000001, .tab .u64 Lib.pow10Tab), (1000002, errG), (1000003, errG)], [(6, .cells 115 (f41z0)), (2000, .cells 3 [.i i5]), (6001, bP (V.int .i64) 0 m108 [] l6), (6002, bP (V.int .i64) 0 m109 false l7), (6003, bP mk110E q1dII m110 [] l8), (6004, bP (V.int .i64) 0 m111 0 l9), (6005, bP mk110E q1dII m110 [] l10), (6006, bP mk112E q1dIIS m112 false l11), (6007, bP mk113E q1dII m113 false l12)], [2000], 0⟩ trivial ?_
  refine AWp.seq ?_
  refine AWp.cond (b := (decide ((n4 : Int) < (lZ x1)))) (by kernel_rfl) (fun hc1 => ?_) (fun hc1 => ?_)
  ·
   replace h := ite_tb hc1 h
   refine AWp.skip ?_
   refine tN ?_
   refine AWp.seq ?_
   refine AWp.block ?_
   refine AWp.seq ?_
   obtain ⟨ob0p, h⟩ := chk_some h
   have ob0 : 0 ≤ (n4 : Int) ∧ (n4 : Int) < (((x1).length : Nat) : Int) := ⟨by omega, ob0p⟩
   refine q1rr [] [] ⟨24, [(1, .fn (.func 42) [.ptr 2000 0]), (6, .ptr 6 0), (7, .i (n4 : Int)), (8, .ptr 8 0), (10, q1aT51 x1), (11, .i (lZ x1)), (12, .i (n4 : Int)), (1000001, .tab .u64 Lib.pow10Tab), (1000002, errG), (1000003, errG)], [(6, .cells 115 (f41z0)), (8, .cells 51 [.i (x1.getD n4 q1dT51).1, .i (x1.getD n4 q1dT51).2.1, .i (x1.getD n4 q1dT51).2.2.1, .i (x1.getD n4 q1dT51).2.2.2.1, .i (x1.getD n4 q1dT51).2.2.2.2.1, .str (x1.getD n4 q1dT51).2.2.2.2.2.1, .str (x1.getD n4 q1dT51).2.2.2.2.2.2, .opq, .opq, .opq, .opq, .opq, .opq, .opq, .opq, .opq, .opq, .opq, .opq, .opq, .opq, .opq, .opq, .opq, .opq, .opq, .opq, .opq]), (2000, .cells 3 [.i i5]), (6001, bP (V.int .i64) 0 m108 [] l6), (6002, bP (V.int .i64) 0 m109 false l7), (6003, bP mk110E q1dII m110 [] l8), (6004, bP (V.int .i64) 0 m111 0 l9), (6005, bP mk110E q1dII m110 [] l10), (6006, bP mk112E q1dIIS m112 false l11), (6007, bP mk113E q1dII m113 false l12)], [2000], 0⟩ (an2 ob0 trivial) ?_
   refine tN ?_
   refine AWp.seq ?_
   refine AWp.seq ?_
   obtain ⟨r13, hr13, h⟩ := bind_ok h
   refine q1rr [] [(2, ⟨[.ptr 6 0, .agg [.i (x1.getD n4 q1dT51).1, .i (x1.getD n4 q1dT51).2.1, .i (x1.getD n4 q1dT51).2.2.1, .i (x1.getD n4 q1dT51).2.2.2.1, .i (x1.getD n4 q1dT51).2.2.2.2.1, .str (x1.getD n4 q1dT51).2.2.2.2.2.1, .str (x1.getD n4 q1dT51).2.2.2.2.2.2, .opq, .opq, .opq, .opq, .opq, .opq, .opq, .opq, .opq, .opq, .opq, .opq, .opq, .opq, .opq, .opq, .opq, .opq, .opq, .opq, .opq], .ptr 2000 0], [6, 6001, 6002, 6003, 6004, 6005, 6006, 6007, 2000], [6, 2000], [(6, .cells 115 (f41z0)), (6001, bP (V.int .i64) 0 m108 [] r13.2.1), (6002, bP (V.int .i64) 0 m109 false r13.2.2.1), (6003, bP mk110E q1dII m110 [] r13.2.2.2.1), (6004, bP (V.int .i64) 0 m111 0 r13.2.2.2.2.1), (6005, bP mk110E q1dII m110 [] r13.2.2.2.2.2.1), (6006, bP mk112E q1dIIS m112 false r13.2.2.2.2.2.2.1), (6007, bP mk113E q1dII m113 false r13.2.2.2.2.2.2.2.1), (2000, .cells 3 [.i r13.2.2.2.2.2.2.2.2])], .bool r13.1, [6001, 6002, 6003, 6004, 6005, 6006, 6007], [], [1, 2, 3]⟩)] ⟨24, [(1, .fn (.func 42) [.ptr 2000 0]), (6, .ptr 6 0), (7, .i (n4 : Int)), (8, .ptr 8 0), (10, q1aT51 x1), (11, .i (lZ x1)), (12, .i (n4 : Int)), (19, .bool r13.1), (1000001, .tab .u64 Lib.pow10Tab), (1000002, errG), (1000003, errG)], [(6, .cells 115 (f41z0)), (8, .cells 51 [.i (x1.getD n4 q1dT51).1, .i (x1.getD n4 q1dT51).2.1, .i (x1.getD n4 q1dT51).2.2.1, .i (x1.getD n4 q1dT51).2.2.2.1, .i (x1.getD n4 q1dT51).2.2.2.2.1, .str (x1.getD n4 q1dT51).2.2.2.2.2.1, .str (x1.getD n4 q1dT51).2.2.2.2.2.2, .opq, .opq, .opq, .opq, .opq, .opq, .opq, .opq, .opq, .opq, .opq, .opq, .opq, .opq, .opq, .opq, .opq, .opq, .opq, .opq, .opq]), (2000, .cells 3 [.i r13.2.2.2.2.2.2.2.2]), (6001, bP (V.int .i64) 0 m108 [] r13.2.1), (6002, bP (V.int .i64) 0 m109 false r13.2.2.1), (6003, bP mk110E q1dII m110 [] r13.2.2.2.1), (6004, bP (V.int .i64) 0 m111 0 r13.2.2.2.2.1), (6005, bP mk110E q1dII m110 [] r13.2.2.2.2.2.1), (6006, bP mk112E q1dIIS m112 false r13.2.2.2.2.2.2.1), (6007, bP mk113E q1dII m113 false r13.2.2.2.2.2.2.2.1)], [2000], 0⟩ (an1 (cpT (Spec1.ren (swapN 2008 2000) (swapN_inv 2008 2000) rfl (Spec1.ren (swapN 2007 6007) (swapN_inv 2007 6007) rfl (Spec1.ren (swapN 2006 6006) (swapN_inv 2006 6006) rfl (Spec1.ren (swapN 2005 6005) (swapN_inv 2005 6005) rfl (Spec1.ren (swapN 2004 6004) (swapN_inv 2004 6004) rfl (Spec1.ren (swapN 2003 6003) (swapN_inv 2003 6003) rfl (Spec1.ren (swapN 2002 6002) (swapN_inv 2002 6002) rfl (Spec1.ren (swapN 2001 6001) (swapN_inv 2001 6001) rfl (Spec1.ren (swapN 2000 6) (swapN_inv 2000 6) rfl (f42_ok _ _ _ _ _ _ _ _ _ _ _ _ _ _ _ _ hr13)))))))))))) ?_
   refine tN ?_
   refine AWp.cond (b := r13.1) (by kernel_rfl) (fun hc2 => ?_) (fun hc2 => ?_)
   ·
    replace h := ite_tb hc2 h
    refine q1rq [] [] ⟨24, [(4, .i (n4 : Int)), (5, .i (0 : Int)), (1000001, .tab .u64 Lib.pow10Tab), (1000002, errG), (1000003, errG)], [(2000, .cells 3 [.i r13.2.2.2.2.2.2.2.2])], [2000], 0⟩ trivial ?_
    have hret := Option.some.inj h
    subst hret
    refine AWp.le (Le.mk (s' := ⟨24, [(4, .i (n4 : Int)), (5, .i (0 : Int))], [(2000, .cells 3 [.i r13.2.2.2.2.2.2.2.2])], [2000], 0⟩) rfl rfl ⟨.refl _, .refl _, trivial⟩ ⟨⟨_, rfl, .refl _⟩, trivial⟩) ?_
    refine AWp.ret ?_
    refine tR ?_
    refine kR ?_
    refine tR ?_
    refine tR ?_
    refine kR ?_
    refine joinQ_ret ?_
    exact bR _ rfl ⟨rfl, rfl⟩ rfl
   ·
    replace h := ite_fb hc2 h
    refine AWp.skip ?_
    refine tN ?_
    obtain ⟨r14, hr14, h⟩ := bind_ok h
    refine q1rr [] [(1, ⟨[.ptr 6 0, .agg [.i (x1.getD n4 q1dT51).1, .i (x1.getD n4 q1dT51).2.1, .i (x1.getD n4 q1dT51).2.2.1, .i (x1.getD n4 q1dT51).2.2.2.1, .i (x1.getD n4 q1dT51).2.2.2.2.1, .str (x1.getD n4 q1dT51).2.2.2.2.2.1, .str (x1.getD n4 q1dT51).2.2.2.2.2.2, .opq, .opq, .opq, .opq, .opq, .opq, .opq, .opq, .opq, .opq, .opq, .opq, .opq, .opq, .opq, .opq, .opq, .opq, .opq, .opq, .opq]], [6, 6001, 6002, 6003, 6004, 6005, 6006, 6007], [6], [(6, .cells 115 (f41z0)), (6001, bP (V.int .i64) 0 m108 [] r14.1), (6002, bP (V.int .i64) 0 m109 false r14.2.1), (6003, bP mk110E q1dII m110 [] r14.2.2.1), (6004, bP (V.int .i64) 0 m111 0 r14.2.2.2.1), (6005, bP mk110E q1dII m110 [] r14.2.2.2.2.1), (6006, bP mk112E q1dIIS m112 false r14.2.2.2.2.2.1), (6007, bP mk113E q1dII m113 false r14.2.2.2.2.2.2)], .tup [], [6001, 6002, 6003, 6004, 6005, 6006, 6007], [], []⟩)] ⟨24, [(1, .fn (.func 42) [.ptr 2000 0]), (6, .ptr 6 0), (10, q1aT51 x1), (11, .i (lZ x1)), (12, .i (n4 : Int)), (1000001, .tab .u64 Lib.pow10Tab), (1000002, errG), (1000003, errG)], (f41z2 r13 r14), [2000], 0⟩ (an1 (cpT (Spec1.ren (swapN 2007 6007) (swapN_inv 2007 6007) rfl (Spec1.ren (swapN 2006 6006) (swapN_inv 2006 6006) rfl (Spec1.ren (swapN 2005 6005) (swapN_inv 2005 6005) rfl (Spec1.ren (swapN 2004 6004) (swapN_inv 2004 6004) rfl (Spec1.ren (swapN 2003 6003) (swapN_inv 2003 6003) rfl (Spec1.ren (swapN 2002 6002) (swapN_inv 2002 6002) rfl (Spec1.ren (swapN 2001 6001) (swapN_inv 2001 6001) rfl (Spec1.ren (swapN 2000 6) (swapN_inv 2000 6) rfl (f45_ok _ _ _ _ _ _ _ _ _ _ _ _ _ _ _ hr14))))))))))) ?_
    refine kN ?_
    refine tN ?_
    obtain ⟨ob1p, h⟩ := chk_some h
    have ob1 : -9223372036854775808 ≤ ((n4 : Int) + (1 : Int)) ∧ ((n4 : Int) + (1 : Int)) ≤ 9223372036854775807 := ⟨by omega, ob1p⟩
    refine q1rr [] [] ⟨24, [(1, .fn (.func 42) [.ptr 2000 0]), (6, .ptr 6 0), (10, q1aT51 x1), (11, .i (lZ x1)), (12, .i (((n4 + 1) : Nat) : Int)), (1000001, .tab .u64 Lib.pow10Tab), (1000002, errG), (1000003, errG)], (f41z2 r13 r14), [2000], 0⟩ (an1 ob1) ?_
    rw [hC0] at h
    exact lN (_, (n4 + 1), r13.2.2.2.2.2.2.2.2, r14.1, r14.2.1, r14.2.2.1, r14.2.2.2.1, r14.2.2.2.2.1, r14.2.2.2.2.2.1, r14.2.2.2.2.2.2) (Le.mk rfl rfl ⟨.refl _, .refl _, .refl _, .refl _, .refl _, .refl _, .refl _, .refl _, trivial⟩ ⟨⟨_, rfl, .refl _⟩, ⟨_, rfl, .refl _⟩, ⟨_, rfl, .refl _⟩, ⟨_, rfl, .refl _⟩, ⟨_, rfl, .refl _⟩, ⟨_, rfl, .refl _⟩, ⟨_, rfl, .refl _⟩, ⟨_, rfl, .refl _⟩, ⟨_, rfl, .refl _⟩, trivial⟩) h (Nat.lt_succ_self _)
  ·
   replace h := ite_fb hc1 h
   refine AWp.exit ?_
   refine tE ?_
   refine tE ?_
   refine kS ?_
   exact jN (i5) (Le.mk rfl rfl ⟨.refl _, .refl _, .refl _, trivial⟩ ⟨⟨_, rfl, .refl _⟩, trivial⟩) h
 ·
  rintro i15 h
  replace h := (congrFun hK1 _).symm.trans h
  refine q1rq [] [] ⟨24, [(4, .i (0 : Int)), (5, .i (13 : Int)), (1000001, .tab .u64 Lib.pow10Tab), (1000002, errG), (1000003, errG)], [(2000, .cells 3 [.i i15])], [2000], 0⟩ trivial ?_
  have hret := Option.some.inj h
  subst hret
  refine AWp.le (Le.mk (s' := ⟨24, [(4, .i (0 : Int)), (5, .i (13 : Int))], [(2000, .cells 3 [.i i15])], [2000], 0⟩) rfl rfl ⟨.refl _, .refl _, trivial⟩ ⟨⟨_, rfl, .refl _⟩, trivial⟩) ?_
  refine AWp.ret ?_
  exact bR _ rfl ⟨rfl, rfl⟩ rfl
def f13 (x1 : List (List UInt8)) (x2 : List Tq5) (x3 : BitVec 16) (x4 : List (List UInt8 × Int × BitVec 16 × List (BitVec 16) × List (BitVec 16) × (List Tq1))) (x5 : List Int) (x6 : List (List UInt8 × Bool × (List Tq1))) (x7 : List Y51) : Option Tq6 :=
 (f41 x7 (0 : Int)).bind fun (r8 : Tq6) =>
 some (r8.1, r8.2.2, r8.2.1)
theorem f13_ok  (x1 : List (List UInt8)) (x2 : List Tq5) (x3 : BitVec 16) (x4 : List (List UInt8 × Int × BitVec 16 × List (BitVec 16) × List (BitVec 16) × (List Tq1))) (x5 : List Int) (x6 : List (List UInt8 × Bool × (List Tq1))) (x7 : List Y51) (r : Tq6) (h : f13 x1 x2 x3 x4 x5 x6 x7 = some r)  : Spec1 Tryz.prog 13 [(1, .tab .u64 Lib.pow10Tab), (2, errG), (3, errG)] [] [] [.agg [vL 1 eS [] x1, vL 2 eSW (default : Tq5) x2, .b16 x3, vL 6 eT73 (default : List UInt8 × Int × BitVec 16 × List (BitVec 16) × List (BitVec 16) × (List Tq1)) x4, vL 1 eI 0 x5, vL 3 eSBLWWJ (default : List UInt8 × Bool × (List Tq1)) x6], vL 28 eT51 (default : Y51) x7] (.tup [.int .i64 r.1, .int .i64 r.2.1, .int .i64 r.2.2]) [] := by
 unfold f13 at h
 refine Spec1.body 0 _ _ Tryz.func13 rfl Tryz.ntmps13 rfl rfl ?_
 refine q1rq [] [] ⟨19, [(1, q1aT51 x7), (1000001, .tab .u64 Lib.pow10Tab), (1000002, errG), (1000003, errG)], [], [], 0⟩ trivial ?_
 refine q1rq [] [] ⟨19, [(1, q1aT51 x7), (7, .ptr 7 0), (1000001, .tab .u64 Lib.pow10Tab), (1000002, errG), (1000003, errG)], [(7, .cells 3 [.i (0 : Int)])], [], 0⟩ (an1 trivial) ?_
 refine AWp.seq ?_
 obtain ⟨r8, hr8, h⟩ := bind_ok h
 refine q1rr [] [(2, ⟨[q1aT51 x7, .fn (.func 42) [.ptr 7 0]], [7], [7], [(7, .cells 3 [.i r8.2.2])], .tup [.i r8.1, .i r8.2.1], [], [], [1, 2, 3]⟩)] ⟨19, [(7, .ptr 7 0), (8, .i r8.1), (9, .i r8.2.1), (1000001, .tab .u64 Lib.pow10Tab), (1000002, errG), (1000003, errG)], [(7, .cells 3 [.i r8.2.2])], [], 0⟩ (an1 (cpT (Spec1.ren (swapN 2000 7) (swapN_inv 2000 7) rfl (f41_ok _ _ _ hr8)))) ?_
 refine tN ?_
 refine q1rq [] [] ⟨19, [(4, .i r8.1), (5, .i r8.2.2), (6, .i r8.2.1), (1000001, .tab .u64 Lib.pow10Tab), (1000002, errG), (1000003, errG)], [], [], 0⟩ trivial ?_
 have hret := Option.some.inj h
 subst hret
 refine AWp.le (Le.mk (s' := ⟨19, [(4, .i r8.1), (5, .i r8.2.2), (6, .i r8.2.1)], [], [], 0⟩) rfl rfl ⟨.refl _, .refl _, .refl _, trivial⟩ trivial) ?_
 refine AWp.ret ?_
 exact bR _ rfl ⟨rfl, rfl⟩ rfl
def f14_L0 (x1 : List Y51) (K1 : ((List Tq4) × (List Tq3) × (List (Tq0 × List UInt8)) × (List Tq0) × (List (Tq0 × List UInt8)) × (List (Tq2 × Bool)) × (List (Tq0 × Bool))) → Option (List (List UInt8))) : Nat → (Nat × (List Tq4) × (List Tq3) × (List (Tq0 × List UInt8)) × (List Tq0) × (List (Tq0 × List UInt8)) × (List (Tq2 × Bool)) × (List (Tq0 × Bool))) → Option (List (List UInt8))
 | 0, _ => none
 | k + 1, (n3, l4, l5, l6, l7, l8, l9, l10) =>
  if (decide ((n3 : Int) < (((x1).length : Nat) : Int))) then (
  chk ((n3 : Int) < (((x1).length : Nat) : Int)) <|
  (f45 ((x1.getD n3 (default : Y51)).1) ((x1.getD n3 (default : Y51)).2.1) ((x1.getD n3 (default : Y51)).2.2.1) ((x1.getD n3 (default : Y51)).2.2.2.1) ((x1.getD n3 (default : Y51)).2.2.2.2.1) ((x1.getD n3 (default : Y51)).2.2.2.2.2.1) ((x1.getD n3 (default : Y51)).2.2.2.2.2.2) l4 l5 l6 l7 l8 l9 l10).bind fun (r11 : (List Tq4) × (List Tq3) × (List (Tq0 × List UInt8)) × (List Tq0) × (List (Tq0 × List UInt8)) × (List (Tq2 × Bool)) × (List (Tq0 × Bool))) =>
  chk (((n3 : Int) + (1 : Int)) ≤ 9223372036854775807) <|
  (f14_L0 x1 K1 k) ((n3 + 1), r11.1, r11.2.1, r11.2.2.1, r11.2.2.2.1, r11.2.2.2.2.1, r11.2.2.2.2.2.1, r11.2.2.2.2.2.2)
  ) else (
  K1 (l4, l5, l6, l7, l8, l9, l10)
  )
def f14_L1 (l12 : List Tq4) (l13 : List Tq3) : Nat → (List (List UInt8)) → Option (List (List UInt8))
 | 0, _ => none
 | k + 1, l19 =>
  if (!(hM l12 (((l19).length : Nat) : Int))) = true then (
  some l19
  ) else (
  if (gM l13 false (((l19).length : Nat) : Int)) then (
  some l19
  ) else (
  chk (((l19).length + 1) * 16 ≤ 140737488355328) <|
  (f14_L1 l12 l13 k) (l19 ++ [(gM l12 [] (((l19).length : Nat) : Int))])
  )
  )
abbrev f14z0 : List V := [.own 6001, .own 6002, .own 6003, .own 6004, .own 6005, .own 6006, .own 6007]
abbrev f14z1 (r11 : (List Tq4) × (List Tq3) × (List (Tq0 × List UInt8)) × (List Tq0) × (List (Tq0 × List UInt8)) × (List (Tq2 × Bool)) × (List (Tq0 × Bool))) : Heap := [(3, .cells 115 (f14z0)), (6001, bP (V.int .i64) 0 m108 [] r11.1), (6002, bP (V.int .i64) 0 m109 false r11.2.1), (6003, bP mk110E (default : Tq0) m110 [] r11.2.2.1), (6004, bP (V.int .i64) 0 m111 0 r11.2.2.2.1), (6005, bP mk110E (default : Tq0) m110 [] r11.2.2.2.2.1), (6006, bP mk112E (default : Tq2) m112 false r11.2.2.2.2.2.1), (6007, bP mk113E (default : Tq0) m113 false r11.2.2.2.2.2.2)]
abbrev f14z2 (l19 : List (List UInt8)) (l12 : List Tq4) (l13 : List Tq3) (l14 : List (Tq0 × List UInt8)) (l15 : List Tq0) (l16 : List (Tq0 × List UInt8)) (l17 : List (Tq2 × Bool)) (l18 : List (Tq0 × Bool)) : Heap := [(3, .cells 115 (f14z0)), (5006, bL 9 1 eS [] l19), (6001, bP (V.int .i64) 0 m108 [] l12), (6002, bP (V.int .i64) 0 m109 false l13), (6003, bP mk110E (default : Tq0) m110 [] l14), (6004, bP (V.int .i64) 0 m111 0 l15), (6005, bP mk110E (default : Tq0) m110 [] l16), (6006, bP mk112E (default : Tq2) m112 false l17), (6007, bP mk113E (default : Tq0) m113 false l18)]
abbrev f14z3 (r2 : (List Tq4) × (List Tq3) × (List (Tq0 × List UInt8)) × (List Tq0) × (List (Tq0 × List UInt8)) × (List (Tq2 × Bool)) × (List (Tq0 × Bool))) : Heap := [(3, .cells 115 (f14z0)), (6001, bP (V.int .i64) 0 m108 [] r2.1), (6002, bP (V.int .i64) 0 m109 false r2.2.1), (6003, bP mk110E (default : Tq0) m110 [] r2.2.2.1), (6004, bP (V.int .i64) 0 m111 0 r2.2.2.2.1), (6005, bP mk110E (default : Tq0) m110 [] r2.2.2.2.2.1), (6006, bP mk112E (default : Tq2) m112 false r2.2.2.2.2.2.1), (6007, bP mk113E (default : Tq0) m113 false r2.2.2.2.2.2.2)]
abbrev f14z4 (l4 : List Tq4) (l5 : List Tq3) (l6 : List (Tq0 × List UInt8)) (l7 : List Tq0) (l8 : List (Tq0 × List UInt8)) (l9 : List (Tq2 × Bool)) (l10 : List (Tq0 × Bool)) : Heap := [(3, .cells 115 (f14z0)), (6001, bP (V.int .i64) 0 m108 [] l4), (6002, bP (V.int .i64) 0 m109 false l5), (6003, bP mk110E (default : Tq0) m110 [] l6), (6004, bP (V.int .i64) 0 m111 0 l7), (6005, bP mk110E (default : Tq0) m110 [] l8), (6006, bP mk112E (default : Tq2) m112 false l9), (6007, bP mk113E (default : Tq0) m113 false l10)]
abbrev f14z5 (l12 : List Tq4) (l13 : List Tq3) (l14 : List (Tq0 × List UInt8)) (l15 : List Tq0) (l16 : List (Tq0 × List UInt8)) (l17 : List (Tq2 × Bool)) (l18 : List (Tq0 × Bool)) : Heap := [(3, .cells 115 (f14z0)), (6001, bP (V.int .i64) 0 m108 [] l12), (6002, bP (V.int .i64) 0 m109 false l13), (6003, bP mk110E (default : Tq0) m110 [] l14), (6004, bP (V.int .i64) 0 m111 0 l15), (6005, bP mk110E (default : Tq0) m110 [] l16), (6006, bP mk112E (default : Tq2) m112 false l17), (6007, bP mk113E (default : Tq0) m113 false l18)]
abbrev f14z6 := (List (Tq0 × List UInt8))
abbrev f14z7 : List (Nat × V) := [(3, .ptr 3 0), (6, .own 5006)]
def f14 (x1 : List Y51) : Option (List (List UInt8)) :=
 (f44 ).bind fun (r2 : (List Tq4) × (List Tq3) × (List (Tq0 × List UInt8)) × (List Tq0) × (List (Tq0 × List UInt8)) × (List (Tq2 × Bool)) × (List (Tq0 × Bool))) =>
 jn (fun ((l12, l13, l14, l15, l16, l17, l18) : (List Tq4) × (List Tq3) × (List (Tq0 × List UInt8)) × (List Tq0) × (List (Tq0 × List UInt8)) × (List (Tq2 × Bool)) × (List (Tq0 × Bool))) =>
 f14_L1 l12 l13 FUEL []
 ) fun (K1 : ((List Tq4) × (List Tq3) × (List (Tq0 × List UInt8)) × (List Tq0) × (List (Tq0 × List UInt8)) × (List (Tq2 × Bool)) × (List (Tq0 × Bool))) → Option (List (List UInt8))) =>
 f14_L0 x1 K1 FUEL (0, r2.1, r2.2.1, r2.2.2.1, r2.2.2.2.1, r2.2.2.2.2.1, r2.2.2.2.2.2.1, r2.2.2.2.2.2.2)
end Go.Abs
