/- Part 15 of the proof: X54s. -/
import Derived.Test.YtfkhgbcggabkjaaGreatDoorMonfrkZ14
import Derived.Test.YtfkhgbcggabkjaaGreatDoorProg
namespace Go.Abs
open Go Go.Proofs
set_option maxHeartbeats 4000000
theorem Tryz_mixed : Tryz.prog.follows .mixedOrders = true := by kernel_rfl
def T4 : List Nat := [0, 1, 28, 2, 29, 14, 24, 3, 30, 22, 20, 15, 25, 17, 4, 8, 31, 27, 13, 23, 21, 19, 16, 7, 26, 12, 18, 6, 11, 5, 10, 9]
def T5 : List Nat := [0, 1, 56, 2, 57, 49, 28, 3, 61, 58, 42, 50, 38, 29, 17, 4, 62, 47, 59, 36, 45, 43, 51, 22, 53, 39, 33, 30, 24, 18, 12, 5, 63, 55, 48, 27, 60, 41, 37, 16, 46, 35, 44, 21, 52, 32, 23, 11, 54, 26, 40, 15, 34, 20, 31, 10, 25, 14, 19, 9, 13, 8, 7, 6]
def T1 : List Nat := [1, 10, 100, 1000, 10000, 100000, 1000000, 10000000, 100000000, 1000000000, 10000000000, 100000000000, 1000000000000, 10000000000000, 100000000000000, 1000000000000000, 10000000000000000, 100000000000000000, 1000000000000000000, 10000000000000000000]
def T8 : List Nat := [128, 191, 160, 191, 128, 159, 144, 191, 128, 143, 0, 0, 0, 0, 0, 0, 0, 0, 0, 0, 0, 0, 0, 0, 0, 0, 0, 0, 0, 0, 0, 0]
abbrev Y51 : Type := Int × Int × Int × Int × Int × List UInt8 × List UInt8
instance : DecidableEq Y51 := @instDecidableEqProd Int _ inferInstance (@instDecidableEqProd Int _ inferInstance (@instDecidableEqProd Int _ inferInstance (@instDecidableEqProd Int _ inferInstance (@instDecidableEqProd Int _ inferInstance (@instDecidableEqProd (List UInt8) _ inferInstance (inferInstance))))))
def eT51 (x : Y51) : List V := [.int .i64 x.1, .int .i64 x.2.1, .int .i64 x.2.2.1, .int .i64 x.2.2.2.1, .int .i64 x.2.2.2.2.1, .str x.2.2.2.2.2.1, .str x.2.2.2.2.2.2, .opq, .opq, .opq, .opq, .opq, .opq, .opq, .opq, .opq, .opq, .opq, .opq, .opq, .opq, .opq, .opq, .opq, .opq, .opq, .opq, .opq]
def eI (x : Int) : List V := [.int .i64 x]
def eS (x : List UInt8) : List V := [.str x]
theorem eS_flat (x : List UInt8) (j : Nat) : ((eS x).getD j .any).flat = true := by
  match j with
  | 0 => rfl
  | _ + 1 => rfl
def eSW (x : List UInt8 × BitVec 16) : List V := [.str x.1, .b16 x.2]
def eW (x : BitVec 16) : List V := [.b16 x]
def eWW (x : BitVec 16 × BitVec 16) : List V := [.b16 x.1, .b16 x.2]
instance : DecidableEq (List UInt8 × Int × BitVec 16 × List (BitVec 16) × List (BitVec 16) × (List (BitVec 16 × BitVec 16))) := @instDecidableEqProd (List UInt8) _ inferInstance (@instDecidableEqProd Int _ inferInstance (@instDecidableEqProd (BitVec 16) _ inferInstance (@instDecidableEqProd (List (BitVec 16)) _ inferInstance (@instDecidableEqProd (List (BitVec 16)) _ inferInstance (inferInstance)))))
def eT73 (x : List UInt8 × Int × BitVec 16 × List (BitVec 16) × List (BitVec 16) × (List (BitVec 16 × BitVec 16))) : List V := [.str x.1, .int .i64 x.2.1, .b16 x.2.2.1, vL 1 eW 0#16 x.2.2.2.1, vL 1 eW 0#16 x.2.2.2.2.1, vL 2 eWW (default : BitVec 16 × BitVec 16) x.2.2.2.2.2]
instance : DecidableEq (List UInt8 × Bool × (List (BitVec 16 × BitVec 16))) := @instDecidableEqProd (List UInt8) _ inferInstance (@instDecidableEqProd Bool _ inferInstance (inferInstance))
def eSBLWWJ (x : List UInt8 × Bool × (List (BitVec 16 × BitVec 16))) : List V := [.str x.1, .bool x.2.1, vL 2 eWW (default : BitVec 16 × BitVec 16) x.2.2]
def m108 (x : List UInt8) : V := .str x
theorem kE108 : KeyE Tryz.prog 3 (V.int .i64) := keyE_plain Tryz.underlying3 (keyEq_int .i64) (fun _ => rfl) (fun _ => rfl)
def m109 (x : Bool) : V := .bool x
theorem kE109 : KeyE Tryz.prog 3 (V.int .i64) := keyE_plain Tryz.underlying3 (keyEq_int .i64) (fun _ => rfl) (fun _ => rfl)
def mk110E (x : Int × Int) : V := .agg [.int .i64 x.1, .int .i64 x.2]
def m110 (x : List UInt8) : V := .str x
theorem kE110 : KeyE Tryz.prog 145 mk110E := keyE_struct (default : Int × Int) (fun _ => ⟨_, rfl, rfl⟩) Tryz.underlying145 (fun a b => (show eqV Tryz.prog 10000 145 (mk110E a) (mk110E b) = some ((a.1 == b.1) && ((a.2 == b.2) && true)) from by kernel_rfl).trans (congrArg some (by rw [Bool.eq_iff_iff]; simp [Prod.ext_iff]))) (fun _ => rfl)
def m111 (x : Int) : V := .int .i64 x
theorem kE111 : KeyE Tryz.prog 3 (V.int .i64) := keyE_plain Tryz.underlying3 (keyEq_int .i64) (fun _ => rfl) (fun _ => rfl)
def eIIS (x : Int × Int × List UInt8) : List V := [.int .i64 x.1, .int .i64 x.2.1, .str x.2.2]
def mk112E (x : Int × Int × List UInt8) : V := .agg [.int .i64 x.1, .int .i64 x.2.1, .str x.2.2]
def m112 (x : Bool) : V := .bool x
theorem kE112 : KeyE Tryz.prog 88 mk112E := keyE_struct (default : Int × Int × List UInt8) (fun _ => ⟨_, rfl, rfl⟩) Tryz.underlying88 (fun a b => (show eqV Tryz.prog 10000 88 (mk112E a) (mk112E b) = some ((a.1 == b.1) && ((a.2.1 == b.2.1) && ((a.2.2 == b.2.2) && true))) from by kernel_rfl).trans (congrArg some (by rw [Bool.eq_iff_iff]; simp [Prod.ext_iff]))) (fun _ => rfl)
def mk113E (x : Int × Int) : V := .agg [.int .i64 x.1, .int .i64 x.2]
def m113 (x : Bool) : V := .bool x
theorem kE113 : KeyE Tryz.prog 145 mk113E := keyE_struct (default : Int × Int) (fun _ => ⟨_, rfl, rfl⟩) Tryz.underlying145 (fun a b => (show eqV Tryz.prog 10000 145 (mk113E a) (mk113E b) = some ((a.1 == b.1) && ((a.2 == b.2) && true)) from by kernel_rfl).trans (congrArg some (by rw [Bool.eq_iff_iff]; simp [Prod.ext_iff]))) (fun _ => rfl)
def cs0 : List UInt8 := [0, 1, 2, 2, 3, 3, 3, 3, 4, 4, 4, 4, 4, 4, 4, 4, 5, 5, 5, 5, 5, 5, 5, 5, 5, 5, 5, 5, 5, 5, 5, 5, 6, 6, 6, 6, 6, 6, 6, 6, 6, 6, 6, 6, 6, 6, 6, 6, 6, 6, 6, 6, 6, 6, 6, 6, 6, 6, 6, 6, 6, 6, 6, 6, 7, 7, 7, 7, 7, 7, 7, 7, 7, 7, 7, 7, 7, 7, 7, 7, 7, 7, 7, 7, 7, 7, 7, 7, 7, 7, 7, 7, 7, 7, 7, 7, 7, 7, 7, 7, 7, 7, 7, 7, 7, 7, 7, 7, 7, 7, 7, 7, 7, 7, 7, 7, 7, 7, 7, 7, 7, 7, 7, 7, 7, 7, 7, 7, 8, 8, 8, 8, 8, 8, 8, 8, 8, 8, 8, 8, 8, 8, 8, 8, 8, 8, 8, 8, 8, 8, 8, 8, 8, 8, 8, 8, 8, 8, 8, 8, 8, 8, 8, 8, 8, 8, 8, 8, 8, 8, 8, 8, 8, 8, 8, 8, 8, 8, 8, 8, 8, 8, 8, 8, 8, 8, 8, 8, 8, 8, 8, 8, 8, 8, 8, 8, 8, 8, 8, 8, 8, 8, 8, 8, 8, 8, 8, 8, 8, 8, 8, 8, 8, 8, 8, 8, 8, 8, 8, 8, 8, 8, 8, 8, 8, 8, 8, 8, 8, 8, 8, 8, 8, 8, 8, 8, 8, 8, 8, 8, 8, 8, 8, 8, 8, 8, 8, 8, 8, 8, 8, 8, 8, 8, 8, 8]
def cs1 : List UInt8 := [102, 105, 110, 105, 115, 104]
abbrev q1aT51 (l : List (Y51)) : V := vL 28 eT51 (default : Y51) l
abbrev q1bT51_51 (l : List (Y51)) : Blk := bL 51 28 eT51 (default : Y51) l
abbrev q1dT51 : Y51 := default
abbrev q1aI (l : List (Int)) : V := vL 1 eI 0 l
abbrev q1aS (l : List (List UInt8)) : V := vL 1 eS [] l
abbrev q1bS_9 (l : List (List UInt8)) : Blk := bL 9 1 eS [] l
abbrev q1aSW (l : List (List UInt8 × BitVec 16)) : V := vL 2 eSW (default : List UInt8 × BitVec 16) l
abbrev q1dII : Int × Int := default
abbrev q1aIIS (l : List (Int × Int × List UInt8)) : V := vL 3 eIIS (default : Int × Int × List UInt8) l
abbrev q1dIIS : Int × Int × List UInt8 := default
abbrev q1w16 (i : Int) : BitVec 16 := BitVec.ofInt 16 i
theorem q1rq {Q : Exit → S → Prop} {id : Nat} {draw : Bool} {y : Code} (W : List Nat) (calls : List (Nat × CC)) {l : List Oper} {s : S} (s' : S) {φ : Prop} (hφ : φ) (hQ : AWp Tryz.prog y Q s') (h : Abs.regC Tryz.prog W draw calls (s'.t.map (·.1)) (s'.h.map (·.1)) l s = some (s', φ) := by kernel_rfl) : AWp Tryz.prog (.seq (.region id l.toArray draw) y) Q s := AWp.sq W calls _ _ s' φ Tryz_mixed h hφ hQ
theorem q1rr {Q : Exit → S → Prop} {id : Nat} {draw : Bool} (W : List Nat) (calls : List (Nat × CC)) {l : List Oper} {s : S} (s' : S) {φ : Prop} (hφ : φ) (hQ : Q .normal s') (h : Abs.regC Tryz.prog W draw calls (s'.t.map (·.1)) (s'.h.map (·.1)) l s = some (s', φ) := by kernel_rfl) : AWp Tryz.prog (.region id l.toArray draw) Q s := AWp.regC W calls _ _ s' φ Tryz_mixed h hφ hQ
abbrev f57z0 (x3 : Int) := (decide (x3 ≥ (0 : Int)))
def f57 (_x1 : Int) (_x2 : Int) (x3 : Int) (_x4 : Int) (_x5 : Int) (_x6 : List UInt8) (_x7 : List UInt8) : Option Bool :=
  some ((decide (x3 ≥ (0 : Int))) && (decide (x3 < (6 : Int))))
set_option maxRecDepth 100000 in
theorem f57_ok  (x1 : Int) (x2 : Int) (x3 : Int) (x4 : Int) (x5 : Int) (x6 : List UInt8) (x7 : List UInt8) (r : Bool) (h : f57 x1 x2 x3 x4 x5 x6 x7 = some r)  : Spec1 Tryz.prog 57 [] [] [] [.agg [.int .i64 x1, .int .i64 x2, .int .i64 x3, .int .i64 x4, .int .i64 x5, .str x6, .str x7, .opq, .opq, .opq, .opq, .opq, .opq, .opq, .opq, .opq, .opq, .opq, .opq, .opq, .opq, .opq, .opq, .opq, .opq, .opq, .opq, .opq]] (.bool r) [] := by
  unfold f57 at h
  refine Spec1.body 0 _ _ Tryz.func57 rfl Tryz.ntmps57 rfl rfl ?_
  refine q1rq [] [] ⟨11, [(1, .ptr 1 0)], [(1, .cells 51 [.i x1, .i x2, .i x3, .i x4, .i x5, .str x6, .str x7, .opq, .opq, .opq, .opq, .opq, .opq, .opq, .opq, .opq, .opq, .opq, .opq, .opq, .opq, .opq, .opq, .opq, .opq, .opq, .opq, .opq])], [], 0⟩ trivial ?_
  refine AWp.seq ?_
  have ob0 := idA (((f57z0 x3) == true) = true)
  have ob1 := idA (((f57z0 x3) == true) = true)
  have ob2 := bqA (f57z0 x3) true
  refine q1rr [] [] ⟨11, [(2, .bool ((f57z0 x3) && (decide (x3 < (6 : Int)))))], [], [], 0⟩ (an3 (an1 ob0) (an1 ob1) ob2) ?_
  refine thenQ_normal ?_
  have hret := Option.some.inj h
  subst hret
  refine AWp.le (Le.mk (s' := ⟨11, [(2, .bool ((f57z0 x3) && (decide (x3 < (6 : Int)))))], [], [], 0⟩) rfl rfl ⟨.refl _, trivial⟩ trivial) ?_
  refine AWp.ret ?_
  exact bodyQ_ret _ rfl ⟨rfl, rfl⟩ rfl
abbrev f50z0 (x2 : Int) (x3 : Int) := ((x2 == (4 : Int)) && (decide (x3 ≥ (0 : Int))))
def f50 (x1 : Int) (x2 : Int) (x3 : Int) (x4 : Int) (x5 : Int) (x6 : List UInt8) (x7 : List UInt8) : Option (Int × Bool) :=
  if (((x2 == (4 : Int)) && (decide (x3 ≥ (0 : Int)))) && (decide (x3 < (12 : Int)))) then (
  some (x3, true)
  ) else (
  optc ((x2 == (3 : Int)) == true) (f57 x1 x2 x3 x4 x5 x6 x7) fun (r8 : Bool) =>
  if ((x2 == (3 : Int)) && r8) then (
  chk (-9223372036854775808 ≤ ((12 : Int) + x3) ∧ ((12 : Int) + x3) ≤ 9223372036854775807) <|
  some (((12 : Int) + x3), true)
  ) else (
  some ((0 : Int), false)
  )
  )
set_option maxRecDepth 100000 in
theorem f50_ok  (x1 : Int) (x2 : Int) (x3 : Int) (x4 : Int) (x5 : Int) (x6 : List UInt8) (x7 : List UInt8) (r : Int × Bool) (h : f50 x1 x2 x3 x4 x5 x6 x7 = some r)  : Spec1 Tryz.prog 50 [] [] [] [.agg [.int .i64 x1, .int .i64 x2, .int .i64 x3, .int .i64 x4, .int .i64 x5, .str x6, .str x7, .opq, .opq, .opq, .opq, .opq, .opq, .opq, .opq, .opq, .opq, .opq, .opq, .opq, .opq, .opq, .opq, .opq, .opq, .opq, .opq, .opq]] (.tup [.int .i64 r.1, .bool r.2]) [] := by
  unfold f50 at h
  refine Spec1.body 0 _ _ Tryz.func50 rfl Tryz.ntmps50 rfl rfl ?_
  refine q1rq [] [] ⟨31, [(1, .ptr 1 0)], [(1, .cells 51 [.i x1, .i x2, .i x3, .i x4, .i x5, .str x6, .str x7, .opq, .opq, .opq, .opq, .opq, .opq, .opq, .opq, .opq, .opq, .opq, .opq, .opq, .opq, .opq, .opq, .opq, .opq, .opq, .opq, .opq])], [], 0⟩ trivial ?_
  refine AWp.seq ?_
  refine AWp.block ?_
  refine AWp.seq ?_
  have ob0 := idA (((x2 == (4 : Int)) == true) = true)
  have ob1 := idA (((x2 == (4 : Int)) == true) = true)
  have ob2 := bqA (x2 == (4 : Int)) true
  have ob3 := idA (((f50z0 x2 x3) == true) = true)
  have ob4 := idA (((f50z0 x2 x3) == true) = true)
  have ob5 := bqA (f50z0 x2 x3) true
  refine q1rr [] [] ⟨31, [(1, .ptr 1 0), (4, .bool ((f50z0 x2 x3) && (decide (x3 < (12 : Int)))))], [(1, .cells 51 [.i x1, .i x2, .i x3, .i x4, .i x5, .str x6, .str x7, .opq, .opq, .opq, .opq, .opq, .opq, .opq, .opq, .opq, .opq, .opq, .opq, .opq, .opq, .opq, .opq, .opq, .opq, .opq, .opq, .opq])], [], 0⟩ (an6 (an1 ob0) (an1 ob1) ob2 (an1 ob3) (an1 ob4) ob5) ?_
  refine thenQ_normal ?_
  refine AWp.cond (b := ((f50z0 x2 x3) && (decide (x3 < (12 : Int))))) (by kernel_rfl) (fun hc1 => ?_) (fun hc1 => ?_)
  ·
    replace h := ite_tb hc1 h
    refine q1rq [] [] ⟨31, [(2, .i x3), (3, .bool true)], [], [], 0⟩ trivial ?_
    have hret := Option.some.inj h
    subst hret
    refine AWp.le (Le.mk (s' := ⟨31, [(2, .i x3), (3, .bool true)], [], [], 0⟩) rfl rfl ⟨.refl _, .refl _, trivial⟩ trivial) ?_
    refine AWp.ret ?_
    refine blockQ_ret ?_
    refine thenQ_ret ?_
    exact bodyQ_ret _ rfl ⟨rfl, rfl⟩ rfl
  ·
    replace h := ite_fb hc1 h
    refine AWp.seq ?_
    obtain ⟨r8, hr8, h⟩ := optc_some h
    have ob6 := idA (((x2 == (3 : Int)) == true) = true)
    have ob7 := bqA (x2 == (3 : Int)) true
    refine q1rr [] [(5, ⟨[.agg [.i x1, .i x2, .i x3, .i x4, .i x5, .str x6, .str x7, .opq, .opq, .opq, .opq, .opq, .opq, .opq, .opq, .opq, .opq, .opq, .opq, .opq, .opq, .opq, .opq, .opq, .opq, .opq, .opq, .opq]], [], [], [], .bool r8, [], [], []⟩)] ⟨31, [(1, .ptr 1 0), (20, .bool ((x2 == (3 : Int)) && r8))], [(1, .cells 51 [.i x1, .i x2, .i x3, .i x4, .i x5, .str x6, .str x7, .opq, .opq, .opq, .opq, .opq, .opq, .opq, .opq, .opq, .opq, .opq, .opq, .opq, .opq, .opq, .opq, .opq, .opq, .opq, .opq, .opq])], [], 0⟩ (an2 (And.intro (cpC fun hc => (f57_ok _ _ _ _ _ _ _ _ (hr8 hc))) (an1 ob6)) ob7) ?_
    refine thenQ_normal ?_
    refine AWp.cond (b := ((x2 == (3 : Int)) && r8)) (by kernel_rfl) (fun hc2 => ?_) (fun hc2 => ?_)
    ·
      replace h := ite_tb hc2 h
      refine AWp.seq ?_
      obtain ⟨ob8, h⟩ := chk_some h
      refine q1rr [] [] ⟨31, [(2, .i ((12 : Int) + x3)), (3, .bool true)], [], [], 0⟩ (an1 ob8) ?_
      refine thenQ_normal ?_
      have hret := Option.some.inj h
      subst hret
      refine AWp.le (Le.mk (s' := ⟨31, [(2, .i ((12 : Int) + x3)), (3, .bool true)], [], [], 0⟩) rfl rfl ⟨.refl _, .refl _, trivial⟩ trivial) ?_
      refine AWp.ret ?_
      refine blockQ_ret ?_
      refine thenQ_ret ?_
      exact bodyQ_ret _ rfl ⟨rfl, rfl⟩ rfl
    ·
      replace h := ite_fb hc2 h
      refine AWp.skip ?_
      refine blockQ_normal ?_
      refine thenQ_normal ?_
      refine q1rq [] [] ⟨31, [(2, .i (0 : Int)), (3, .bool false)], [], [], 0⟩ trivial ?_
      have hret := Option.some.inj h
      subst hret
      refine AWp.le (Le.mk (s' := ⟨31, [(2, .i (0 : Int)), (3, .bool false)], [], [], 0⟩) rfl rfl ⟨.refl _, .refl _, trivial⟩ trivial) ?_
      refine AWp.ret ?_
      exact bodyQ_ret _ rfl ⟨rfl, rfl⟩ rfl
def f101 (x1 : Int) : Option Bool :=
  some (x1 != x1)
set_option maxRecDepth 100000 in
theorem f101_ok  (x1 : Int) (r : Bool) (h : f101 x1 = some r)  : Spec1 Tryz.prog 101 [] [] [] [.int .i64 x1] (.bool r) [] := by
  unfold f101 at h
  refine Spec1.body 0 _ _ Tryz.func101 rfl Tryz.ntmps101 rfl rfl ?_
  refine q1rq [] [] ⟨6, [(0, .i x1)], [], [], 0⟩ trivial ?_
  refine q1rq [] [] ⟨6, [(2, .bool (x1 != x1))], [], [], 0⟩ trivial ?_
  have hret := Option.some.inj h
  subst hret
  refine AWp.le (Le.mk (s' := ⟨6, [(2, .bool (x1 != x1))], [], [], 0⟩) rfl rfl ⟨.refl _, trivial⟩ trivial) ?_
  refine AWp.ret ?_
  exact bodyQ_ret _ rfl ⟨rfl, rfl⟩ rfl
def f71 (x1 : Int) (x2 : Int) : Option Int :=
  (f101 x1).bind fun (r3 : Bool) =>
  (f101 x2).bind fun (r4 : Bool) =>
  if r3 then (
  if r4 then (
  some (0 : Int)
  ) else (
  some (-1 : Int)
  )
  ) else (
  if r4 then (
  some (1 : Int)
  ) else (
  if (decide (x1 < x2)) then (
  some (-1 : Int)
  ) else (
  if (decide (x1 > x2)) then (
  some (1 : Int)
  ) else (
  some (0 : Int)
  )
  )
  )
  )
set_option maxRecDepth 100000 in
theorem f71_ok  (x1 : Int) (x2 : Int) (r : Int) (h : f71 x1 x2 = some r)  : Spec1 Tryz.prog 71 [] [] [] [.int .i64 x1, .int .i64 x2] (.int .i64 r) [] := by
  unfold f71 at h
  refine Spec1.body 0 _ _ Tryz.func71 rfl Tryz.ntmps71 rfl rfl ?_
  refine q1rq [] [] ⟨20, [(0, .i x1), (1, .i x2)], [], [], 0⟩ trivial ?_
  refine AWp.seq ?_
  obtain ⟨r3, hr3, h⟩ := bind_ok h
  refine q1rr [] [(1, ⟨[.i x1], [], [], [], .bool r3, [], [], []⟩)] ⟨20, [(0, .i x1), (1, .i x2), (5, .bool r3)], [], [], 0⟩ (an1 (cpT (f101_ok _ _ hr3))) ?_
  refine thenQ_normal ?_
  refine AWp.seq ?_
  obtain ⟨r4, hr4, h⟩ := bind_ok h
  refine q1rr [] [(1, ⟨[.i x2], [], [], [], .bool r4, [], [], []⟩)] ⟨20, [(0, .i x1), (1, .i x2), (5, .bool r3), (6, .bool r4)], [], [], 0⟩ (an1 (cpT (f101_ok _ _ hr4))) ?_
  refine thenQ_normal ?_
  refine AWp.seq ?_
  refine q1rq [] [] ⟨20, [(0, .i x1), (1, .i x2), (6, .bool r4), (11, .bool r3)], [], [], 0⟩ trivial ?_
  refine AWp.cond (b := r3) (by kernel_rfl) (fun hc1 => ?_) (fun hc1 => ?_)
  ·
    replace h := ite_tb hc1 h
    refine AWp.seq ?_
    refine q1rq [] [] ⟨20, [(12, .bool r4)], [], [], 0⟩ trivial ?_
    refine AWp.cond (b := r4) (by kernel_rfl) (fun hc2 => ?_) (fun hc2 => ?_)
    ·
      replace h := ite_tb hc2 h
      refine q1rq [] [] ⟨20, [(4, .i (0 : Int))], [], [], 0⟩ trivial ?_
      have hret := Option.some.inj h
      subst hret
      refine AWp.le (Le.mk (s' := ⟨20, [(4, .i (0 : Int))], [], [], 0⟩) rfl rfl ⟨.refl _, trivial⟩ trivial) ?_
      refine AWp.ret ?_
      refine thenQ_ret ?_
      refine thenQ_ret ?_
      exact bodyQ_ret _ rfl ⟨rfl, rfl⟩ rfl
    ·
      replace h := ite_fb hc2 h
      refine AWp.skip ?_
      refine thenQ_normal ?_
      refine q1rq [] [] ⟨20, [(4, .i (-1 : Int))], [], [], 0⟩ trivial ?_
      have hret := Option.some.inj h
      subst hret
      refine AWp.le (Le.mk (s' := ⟨20, [(4, .i (-1 : Int))], [], [], 0⟩) rfl rfl ⟨.refl _, trivial⟩ trivial) ?_
      refine AWp.ret ?_
      refine thenQ_ret ?_
      exact bodyQ_ret _ rfl ⟨rfl, rfl⟩ rfl
  ·
    replace h := ite_fb hc1 h
    refine AWp.skip ?_
    refine thenQ_normal ?_
    refine AWp.seq ?_
    refine q1rq [] [] ⟨20, [(0, .i x1), (1, .i x2), (13, .bool r4)], [], [], 0⟩ trivial ?_
    refine AWp.cond (b := r4) (by kernel_rfl) (fun hc3 => ?_) (fun hc3 => ?_)
    ·
      replace h := ite_tb hc3 h
      refine q1rq [] [] ⟨20, [(4, .i (1 : Int))], [], [], 0⟩ trivial ?_
      have hret := Option.some.inj h
      subst hret
      refine AWp.le (Le.mk (s' := ⟨20, [(4, .i (1 : Int))], [], [], 0⟩) rfl rfl ⟨.refl _, trivial⟩ trivial) ?_
      refine AWp.ret ?_
      refine thenQ_ret ?_
      exact bodyQ_ret _ rfl ⟨rfl, rfl⟩ rfl
    ·
      replace h := ite_fb hc3 h
      refine AWp.skip ?_
      refine thenQ_normal ?_
      refine AWp.seq ?_
      refine q1rq [] [] ⟨20, [(0, .i x1), (1, .i x2), (16, .bool (decide (x1 < x2)))], [], [], 0⟩ trivial ?_
      refine AWp.cond (b := (decide (x1 < x2))) (by kernel_rfl) (fun hc4 => ?_) (fun hc4 => ?_)
      ·
        replace h := ite_tb hc4 h
        refine q1rq [] [] ⟨20, [(4, .i (-1 : Int))], [], [], 0⟩ trivial ?_
        have hret := Option.some.inj h
        subst hret
        refine AWp.le (Le.mk (s' := ⟨20, [(4, .i (-1 : Int))], [], [], 0⟩) rfl rfl ⟨.refl _, trivial⟩ trivial) ?_
        refine AWp.ret ?_
        refine thenQ_ret ?_
        exact bodyQ_ret _ rfl ⟨rfl, rfl⟩ rfl
      ·
        replace h := ite_fb hc4 h
        refine AWp.skip ?_
        refine thenQ_normal ?_
        refine AWp.seq ?_
        refine q1rq [] [] ⟨20, [(19, .bool (decide (x1 > x2)))], [], [], 0⟩ trivial ?_
        refine AWp.cond (b := (decide (x1 > x2))) (by kernel_rfl) (fun hc5 => ?_) (fun hc5 => ?_)
        ·
          replace h := ite_tb hc5 h
          refine q1rq [] [] ⟨20, [(4, .i (1 : Int))], [], [], 0⟩ trivial ?_
          have hret := Option.some.inj h
          subst hret
          refine AWp.le (Le.mk (s' := ⟨20, [(4, .i (1 : Int))], [], [], 0⟩) rfl rfl ⟨.refl _, trivial⟩ trivial) ?_
          refine AWp.ret ?_
          refine thenQ_ret ?_
          exact bodyQ_ret _ rfl ⟨rfl, rfl⟩ rfl
        ·
          replace h := ite_fb hc5 h
          refine AWp.skip ?_
          refine thenQ_normal ?_
          refine q1rq [] [] ⟨20, [(4, .i (0 : Int))], [], [], 0⟩ trivial ?_
          have hret := Option.some.inj h
          subst hret
          refine AWp.le (Le.mk (s' := ⟨20, [(4, .i (0 : Int))], [], [], 0⟩) rfl rfl ⟨.refl _, trivial⟩ trivial) ?_
          refine AWp.ret ?_
          exact bodyQ_ret _ rfl ⟨rfl, rfl⟩ rfl
def f51_L0 (x1 : List Int) (x2 : List Int) (K1 : Unit → Option Int) : Nat → Nat → Option Int
  | 0, _ => none
  | k + 1, n3 =>
    if (decide ((n3 : Int) < (((x1).length : Nat) : Int))) then (
    chk ((n3 : Int) < (((x1).length : Nat) : Int)) <|
    if (decide ((n3 : Int) ≥ (((x2).length : Nat) : Int))) then (
    some (1 : Int)
    ) else (
    chk ((n3 : Int) < (((x2).length : Nat) : Int)) <|
    (f71 (x1.getD n3 0) (x2.getD n3 0)).bind fun (r4 : Int) =>
    if (r4 != (0 : Int)) then (
    some r4
    ) else (
    chk (((n3 : Int) + (1 : Int)) ≤ 9223372036854775807) <|
    (f51_L0 x1 x2 K1 k) (n3 + 1)
    )
    )
    ) else (
    K1 ()
    )
def f51 (x1 : List Int) (x2 : List Int) : Option Int :=
  jn (fun (_ : Unit) =>
  if (decide ((((x1).length : Nat) : Int) < (((x2).length : Nat) : Int))) then (
  some (-1 : Int)
  ) else (
  some (0 : Int)
  )
  ) fun (K1 : Unit → Option Int) =>
  f51_L0 x1 x2 K1 FUEL 0
set_option maxRecDepth 100000 in
theorem f51_ok  (x1 : List Int) (x2 : List Int) (r : Int) (h : f51 x1 x2 = some r)  : Spec1 Tryz.prog 51 [] [] [] [vL 1 eI 0 x1, vL 1 eI 0 x2] (.int .i64 r) [] := by
  unfold f51 at h
  refine Spec1.body 0 _ _ Tryz.func51 rfl Tryz.ntmps51 rfl rfl ?_
  refine q1rq [] [] ⟨36, [(0, q1aI x1), (1, q1aI x2)], [], [], 0⟩ trivial ?_
  obtain ⟨K1, hK1, h⟩ := jn_some h
  refine AWp.join (α := Unit) (fun (x : Unit) => match x with | () => ⟨36, [(0, q1aI x1), (1, q1aI x2)], [], [], 0⟩) (fun x => K1 x = some r) ?_ ?_
  ·
    refine q1rq [] [] ⟨36, [(0, q1aI x1), (1, q1aI x2), (9, q1aI x1), (10, .i (lZ x1)), (11, .i (0 : Int))], [], [], 0⟩ trivial ?_
    refine AWp.block ?_
    refine AWp.loopL (α := Nat × Nat) (fun x => match x with | (_, n3) => ⟨36, [(0, q1aI x1), (1, q1aI x2), (9, q1aI x1), (10, .i (lZ x1)), (11, .i (n3 : Int))], [], [], 0⟩) (fun x => f51_L0 x1 x2 K1 x.1 x.2 = some r) (fun x => x.1) (FUEL, 0) (Le.mk (s' := ⟨36, [(0, q1aI x1), (1, q1aI x2), (9, q1aI x1), (10, .i (lZ x1)), (11, .i (0 : Int))], [], [], 0⟩) rfl rfl ⟨.refl _, .refl _, .refl _, .refl _, .refl _, trivial⟩ trivial) h ?_
    rintro ⟨k0, n3⟩ h
    cases k0 with
    | zero => exact nomatch (show (none : Option Int) = some r from h)
    | succ k0 =>
    obtain ⟨C0, hC0⟩ : ∃ C, C = f51_L0 x1 x2 K1 k0 := ⟨_, rfl⟩
    replace h := (f51_L0.eq_2 ..).symm.trans h
    try rw [← hC0] at h
    refine q1rq [] [] ⟨36, [(0, q1aI x1), (1, q1aI x2), (9, q1aI x1), (10, .i (lZ x1)), (11, .i (n3 : Int)), (12, .bool (decide ((n3 : Int) < (lZ x1))))], [], [], 0⟩ trivial ?_
    refine AWp.seq ?_
    refine AWp.cond (b := (decide ((n3 : Int) < (lZ x1)))) (by kernel_rfl) (fun hc1 => ?_) (fun hc1 => ?_)
    ·
      replace h := ite_tb hc1 h
      refine AWp.skip ?_
      refine thenQ_normal ?_
      refine AWp.seq ?_
      refine AWp.block ?_
      refine AWp.seq ?_
      obtain ⟨ob0p, h⟩ := chk_some h
      have ob0 : 0 ≤ (n3 : Int) ∧ (n3 : Int) < (((x1).length : Nat) : Int) := ⟨by omega, ob0p⟩
      refine q1rr [] [] ⟨36, [(0, q1aI x1), (1, q1aI x2), (5, .i (n3 : Int)), (6, .i (x1.getD n3 0)), (9, q1aI x1), (10, .i (lZ x1)), (11, .i (n3 : Int))], [], [], 0⟩ (an1 ob0) ?_
      refine thenQ_normal ?_
      refine AWp.seq ?_
      refine q1rq [] [] ⟨36, [(0, q1aI x1), (1, q1aI x2), (5, .i (n3 : Int)), (6, .i (x1.getD n3 0)), (9, q1aI x1), (10, .i (lZ x1)), (11, .i (n3 : Int)), (19, .bool (decide ((n3 : Int) ≥ (lZ x2))))], [], [], 0⟩ trivial ?_
      refine AWp.cond (b := (decide ((n3 : Int) ≥ (lZ x2)))) (by kernel_rfl) (fun hc2 => ?_) (fun hc2 => ?_)
      ·
        replace h := ite_tb hc2 h
        refine q1rq [] [] ⟨36, [(4, .i (1 : Int))], [], [], 0⟩ trivial ?_
        have hret := Option.some.inj h
        subst hret
        refine AWp.le (Le.mk (s' := ⟨36, [(4, .i (1 : Int))], [], [], 0⟩) rfl rfl ⟨.refl _, trivial⟩ trivial) ?_
        refine AWp.ret ?_
        refine thenQ_ret ?_
        refine blockQ_ret ?_
        refine thenQ_ret ?_
        refine thenQ_ret ?_
        refine blockQ_ret ?_
        refine joinQ_ret ?_
        exact bodyQ_ret _ rfl ⟨rfl, rfl⟩ rfl
      ·
        replace h := ite_fb hc2 h
        refine AWp.skip ?_
        refine thenQ_normal ?_
        refine AWp.seq ?_
        obtain ⟨ob1p, h⟩ := chk_some h
        have ob1 : 0 ≤ (n3 : Int) ∧ (n3 : Int) < (((x2).length : Nat) : Int) := ⟨by omega, ob1p⟩
        refine q1rr [] [] ⟨36, [(0, q1aI x1), (1, q1aI x2), (6, .i (x1.getD n3 0)), (7, .i (x2.getD n3 0)), (9, q1aI x1), (10, .i (lZ x1)), (11, .i (n3 : Int))], [], [], 0⟩ (an1 ob1) ?_
        refine thenQ_normal ?_
        refine AWp.seq ?_
        obtain ⟨r4, hr4, h⟩ := bind_ok h
        refine q1rr [] [(2, ⟨[.i (x1.getD n3 0), .i (x2.getD n3 0)], [], [], [], .i r4, [], [], []⟩)] ⟨36, [(0, q1aI x1), (1, q1aI x2), (8, .i r4), (9, q1aI x1), (10, .i (lZ x1)), (11, .i (n3 : Int))], [], [], 0⟩ (an1 (cpT (f71_ok _ _ _ hr4))) ?_
        refine thenQ_normal ?_
        refine q1rq [] [] ⟨36, [(0, q1aI x1), (1, q1aI x2), (8, .i r4), (9, q1aI x1), (10, .i (lZ x1)), (11, .i (n3 : Int)), (28, .bool (r4 != (0 : Int)))], [], [], 0⟩ trivial ?_
        refine AWp.cond (b := (r4 != (0 : Int))) (by kernel_rfl) (fun hc3 => ?_) (fun hc3 => ?_)
        ·
          replace h := ite_tb hc3 h
          refine q1rq [] [] ⟨36, [(4, .i r4)], [], [], 0⟩ trivial ?_
          have hret := Option.some.inj h
          subst hret
          refine AWp.le (Le.mk (s' := ⟨36, [(4, .i r4)], [], [], 0⟩) rfl rfl ⟨.refl _, trivial⟩ trivial) ?_
          refine AWp.ret ?_
          refine blockQ_ret ?_
          refine thenQ_ret ?_
          refine thenQ_ret ?_
          refine blockQ_ret ?_
          refine joinQ_ret ?_
          exact bodyQ_ret _ rfl ⟨rfl, rfl⟩ rfl
        ·
          replace h := ite_fb hc3 h
          refine AWp.skip ?_
          refine blockQ_normal ?_
          refine thenQ_normal ?_
          obtain ⟨ob2p, h⟩ := chk_some h
          have ob2 : -9223372036854775808 ≤ ((n3 : Int) + (1 : Int)) ∧ ((n3 : Int) + (1 : Int)) ≤ 9223372036854775807 := ⟨by omega, ob2p⟩
          refine q1rr [] [] ⟨36, [(0, q1aI x1), (1, q1aI x2), (9, q1aI x1), (10, .i (lZ x1)), (11, .i (((n3 + 1) : Nat) : Int))], [], [], 0⟩ (an1 ob2) ?_
          rw [hC0] at h
          exact loopQ_normal (_, (n3 + 1)) (Le.mk rfl rfl ⟨.refl _, .refl _, .refl _, .refl _, .refl _, trivial⟩ trivial) h (Nat.lt_succ_self _)
    ·
      replace h := ite_fb hc1 h
      refine AWp.exit ?_
      refine thenQ_exit ?_
      refine thenQ_exit ?_
      refine blockQ_same ?_
      exact joinQ_normal () (Le.mk rfl rfl ⟨.refl _, .refl _, trivial⟩ trivial) h
  ·
    rintro ⟨⟩ h
    replace h := (congrFun hK1 _).symm.trans h
    refine AWp.seq ?_
    refine q1rq [] [] ⟨36, [(35, .bool (decide ((lZ x1) < (lZ x2))))], [], [], 0⟩ trivial ?_
    refine AWp.cond (b := (decide ((lZ x1) < (lZ x2)))) (by kernel_rfl) (fun hc4 => ?_) (fun hc4 => ?_)
    ·
      replace h := ite_tb hc4 h
      refine q1rq [] [] ⟨36, [(4, .i (-1 : Int))], [], [], 0⟩ trivial ?_
      have hret := Option.some.inj h
      subst hret
      refine AWp.le (Le.mk (s' := ⟨36, [(4, .i (-1 : Int))], [], [], 0⟩) rfl rfl ⟨.refl _, trivial⟩ trivial) ?_
      refine AWp.ret ?_
      refine thenQ_ret ?_
      exact bodyQ_ret _ rfl ⟨rfl, rfl⟩ rfl
    ·
      replace h := ite_fb hc4 h
      refine AWp.skip ?_
      refine thenQ_normal ?_
      refine q1rq [] [] ⟨36, [(4, .i (0 : Int))], [], [], 0⟩ trivial ?_
      have hret := Option.some.inj h
      subst hret
      refine AWp.le (Le.mk (s' := ⟨36, [(4, .i (0 : Int))], [], [], 0⟩) rfl rfl ⟨.refl _, trivial⟩ trivial) ?_
      refine AWp.ret ?_
      exact bodyQ_ret _ rfl ⟨rfl, rfl⟩ rfl
def f22_L1 (x1 : List Y51) (n2 : Nat) (K2 : (Int × Int × Int) → Option (Int × Int × Int × Int)) (r6 : Int × Bool) : Nat → (Nat × Int × Int × Int) → Option (Int × Int × Int × Int)
  | 0, _ => none
  | k + 1, (n10, i11, i12, i13) =>
    if (decide ((n10 : Int) < (((x1).length : Nat) : Int))) then (
    jn (fun ((i15, i16, i17) : Int × Int × Int) =>
    chk (((n10 : Int) + (1 : Int)) ≤ 9223372036854775807) <|
    (f22_L1 x1 n2 K2 r6 k) ((n10 + 1), i15, i16, i17)
    ) fun (K3 : (Int × Int × Int) → Option (Int × Int × Int × Int)) =>
    chk ((n10 : Int) < (((x1).length : Nat) : Int)) <|
    (f50 ((x1.getD n10 (default : Y51)).1) ((x1.getD n10 (default : Y51)).2.1) ((x1.getD n10 (default : Y51)).2.2.1) ((x1.getD n10 (default : Y51)).2.2.2.1) ((x1.getD n10 (default : Y51)).2.2.2.2.1) ((x1.getD n10 (default : Y51)).2.2.2.2.2.1) ((x1.getD n10 (default : Y51)).2.2.2.2.2.2)).bind fun (r14 : Int × Bool) =>
    if ((((!r14.2) || (decide (r14.1 < r6.1))) || ((x1.getD n2 (default : Y51)).2.2.2.1 != (x1.getD n10 (default : Y51)).2.2.2.1)) || (((x1.getD n2 (default : Y51)).2.2.2.2.2.1) == ((x1.getD n10 (default : Y51)).2.2.2.2.2.1))) then (
    K3 (i11, i12, i13)
    ) else (
    if (decide (i12 < (0 : Int))) = true then (
    K3 ((x1.getD n2 (default : Y51)).2.2.2.1, r6.1, r14.1)
    ) else (
    (f51 [(x1.getD n2 (default : Y51)).2.2.2.1, r6.1, r14.1] [i11, i12, i13]).bind fun (r18 : Int) =>
    if (decide (r18 < (0 : Int))) then (
    K3 ((x1.getD n2 (default : Y51)).2.2.2.1, r6.1, r14.1)
    ) else (
    K3 (i11, i12, i13)
    )
    )
    )
    ) else (
    K2 (i11, i12, i13)
    )
def f22_L0 (x1 : List Y51) (K1 : (Int × Int × Int) → Option (Int × Int × Int × Int)) : Nat → (Nat × Int × Int × Int) → Option (Int × Int × Int × Int)
  | 0, _ => none
  | k + 1, (n2, i3, i4, i5) =>
    if (decide ((n2 : Int) < (((x1).length : Nat) : Int))) then (
    jn (fun ((i7, i8, i9) : Int × Int × Int) =>
    chk (((n2 : Int) + (1 : Int)) ≤ 9223372036854775807) <|
    (f22_L0 x1 K1 k) ((n2 + 1), i7, i8, i9)
    ) fun (K2 : (Int × Int × Int) → Option (Int × Int × Int × Int)) =>
    chk ((n2 : Int) < (((x1).length : Nat) : Int)) <|
    (f50 ((x1.getD n2 (default : Y51)).1) ((x1.getD n2 (default : Y51)).2.1) ((x1.getD n2 (default : Y51)).2.2.1) ((x1.getD n2 (default : Y51)).2.2.2.1) ((x1.getD n2 (default : Y51)).2.2.2.2.1) ((x1.getD n2 (default : Y51)).2.2.2.2.2.1) ((x1.getD n2 (default : Y51)).2.2.2.2.2.2)).bind fun (r6 : Int × Bool) =>
    if (!r6.2) then (
    K2 (i3, i4, i5)
    ) else (
    f22_L1 x1 n2 K2 r6 FUEL (0, i3, i4, i5)
    )
    ) else (
    K1 (i3, i4, i5)
    )
abbrev f22z0 : List V := [.int .i64 (0 : Int), .int .i64 (0 : Int), .int .i64 (0 : Int)]
abbrev f22z1 (r14 : Int × Bool) (r6 : Int × Bool) := ((!r14.2) || (decide (r14.1 < r6.1)))
abbrev f22z2 (i11 : Int) (i12 : Int) (i13 : Int) : List V := [.int .i64 i11, .int .i64 i12, .int .i64 i13]
abbrev f22z3 : Heap := [(2, .cells 60 (f22z0)), (4, .cells 60 [.int .i64 (0 : Int), .int .i64 (-1 : Int), .int .i64 (0 : Int)])]
abbrev f22z4 (i3 : Int) (i4 : Int) (i5 : Int) : List V := [.int .i64 i3, .int .i64 i4, .int .i64 i5]
abbrev f22z5 (i7 : Int) (i8 : Int) (i9 : Int) : Heap := [(2, .cells 60 (f22z0)), (4, .cells 60 [.int .i64 i7, .int .i64 i8, .int .i64 i9])]
abbrev f22z6 (i3 : Int) (i4 : Int) (i5 : Int) : Heap := [(2, .cells 60 (f22z0)), (4, .cells 60 (f22z4 i3 i4 i5))]
def f22 (x1 : List Y51) : Option (Int × Int × Int × Int) :=
  jn (fun ((i19, i20, i21) : Int × Int × Int) =>
  if (decide (i20 < (0 : Int))) then (
  some ((0 : Int), (0 : Int), (0 : Int), (13 : Int))
  ) else (
  some (i19, i20, i21, (0 : Int))
  )
  ) fun (K1 : (Int × Int × Int) → Option (Int × Int × Int × Int)) =>
  f22_L0 x1 K1 FUEL (0, (0 : Int), (-1 : Int), (0 : Int))
set_option maxRecDepth 100000 in
theorem f22_ok  (x1 : List Y51) (r : Int × Int × Int × Int) (h : f22 x1 = some r)  : Spec1 Tryz.prog 22 [] [] [] [vL 28 eT51 (default : Y51) x1] (.tup [.agg [.int .i64 r.1, .int .i64 r.2.1, .int .i64 r.2.2.1], .int .i64 r.2.2.2]) [] := by
  unfold f22 at h
  refine Spec1.bodyD [2] 0 _ _ Tryz.func22 rfl Tryz.ntmps22 rfl rfl ?_
  refine q1rq [] [] ⟨94, [(0, q1aT51 x1), (2, .ptr 2 0)], [(2, .cells 60 (f22z0))], [], 0⟩ trivial ?_
  refine q1rq [] [] ⟨94, [(0, q1aT51 x1), (2, .ptr 2 0), (4, .ptr 4 0)], (f22z3), [], 0⟩ (an1 trivial) ?_
  obtain ⟨K1, hK1, h⟩ := jn_some h
  refine AWp.join (α := Int × Int × Int) (fun (x : Int × Int × Int) => match x with | (i19, i20, i21) => ⟨94, [(2, .ptr 2 0), (4, .ptr 4 0)], [(2, .cells 60 (f22z0)), (4, .cells 60 [.i i19, .i i20, .i i21])], [], 0⟩) (fun x => K1 x = some r) ?_ ?_
  ·
    refine q1rq [] [] ⟨94, [(0, q1aT51 x1), (2, .ptr 2 0), (4, .ptr 4 0), (15, q1aT51 x1), (16, .i (lZ x1)), (17, .i (0 : Int))], (f22z3), [], 0⟩ trivial ?_
    refine AWp.block ?_
    refine AWp.loopL (α := Nat × (Nat × Int × Int × Int)) (fun x => match x with | (_, n2, i3, i4, i5) => ⟨94, [(0, q1aT51 x1), (2, .ptr 2 0), (4, .ptr 4 0), (15, q1aT51 x1), (16, .i (lZ x1)), (17, .i (n2 : Int))], (f22z6 i3 i4 i5), [], 0⟩) (fun x => f22_L0 x1 K1 x.1 x.2 = some r) (fun x => x.1) (FUEL, 0, (0 : Int), (-1 : Int), (0 : Int)) (Le.mk (s' := ⟨94, [(0, q1aT51 x1), (2, .ptr 2 0), (4, .ptr 4 0), (15, q1aT51 x1), (16, .i (lZ x1)), (17, .i (0 : Int))], (f22z3), [], 0⟩) rfl rfl ⟨.refl _, .refl _, .refl _, .refl _, .refl _, .refl _, trivial⟩ ⟨⟨_, rfl, .refl _⟩, ⟨_, rfl, .refl _⟩, trivial⟩) h ?_
    rintro ⟨k0, n2, i3, i4, i5⟩ h
    cases k0 with
    | zero => exact nomatch (show (none : Option (Int × Int × Int × Int)) = some r from h)
    | succ k0 =>
    obtain ⟨C0, hC0⟩ : ∃ C, C = f22_L0 x1 K1 k0 := ⟨_, rfl⟩
    replace h := (f22_L0.eq_2 ..).symm.trans h
    try rw [← hC0] at h
    refine q1rq [] [] ⟨94, [(0, q1aT51 x1), (2, .ptr 2 0), (4, .ptr 4 0), (15, q1aT51 x1), (16, .i (lZ x1)), (17, .i (n2 : Int)), (18, .bool (decide ((n2 : Int) < (lZ x1))))], (f22z6 i3 i4 i5), [], 0⟩ trivial ?_
    refine AWp.seq ?_
    refine AWp.cond (b := (decide ((n2 : Int) < (lZ x1)))) (by kernel_rfl) (fun hc1 => ?_) (fun hc1 => ?_)
    ·
      replace h := ite_tb hc1 h
      refine AWp.skip ?_
      refine thenQ_normal ?_
      obtain ⟨K2, hK2, h⟩ := jn_some h
      refine AWp.join (α := Int × Int × Int) (fun (x : Int × Int × Int) => match x with | (i7, i8, i9) => ⟨94, [(0, q1aT51 x1), (2, .ptr 2 0), (4, .ptr 4 0), (15, q1aT51 x1), (16, .i (lZ x1)), (17, .i (n2 : Int))], (f22z5 i7 i8 i9), [], 0⟩) (fun x => K2 x = some r) ?_ ?_
      ·
        refine AWp.block ?_
        refine AWp.seq ?_
        obtain ⟨ob0p, h⟩ := chk_some h
        have ob0 : 0 ≤ (n2 : Int) ∧ (n2 : Int) < (((x1).length : Nat) : Int) := ⟨by omega, ob0p⟩
        refine q1rr [] [] ⟨94, [(0, q1aT51 x1), (2, .ptr 2 0), (4, .ptr 4 0), (6, .ptr 6 0), (15, q1aT51 x1), (16, .i (lZ x1)), (17, .i (n2 : Int))], [(2, .cells 60 (f22z0)), (4, .cells 60 (f22z4 i3 i4 i5)), (6, .cells 51 [.i (x1.getD n2 q1dT51).1, .i (x1.getD n2 q1dT51).2.1, .i (x1.getD n2 q1dT51).2.2.1, .i (x1.getD n2 q1dT51).2.2.2.1, .i (x1.getD n2 q1dT51).2.2.2.2.1, .str (x1.getD n2 q1dT51).2.2.2.2.2.1, .str (x1.getD n2 q1dT51).2.2.2.2.2.2, .opq, .opq, .opq, .opq, .opq, .opq, .opq, .opq, .opq, .opq, .opq, .opq, .opq, .opq, .opq, .opq, .opq, .opq, .opq, .opq, .opq])], [], 0⟩ (an2 ob0 trivial) ?_
        refine thenQ_normal ?_
        refine AWp.seq ?_
        obtain ⟨r6, hr6, h⟩ := bind_ok h
        refine q1rr [] [(1, ⟨[.agg [.i (x1.getD n2 q1dT51).1, .i (x1.getD n2 q1dT51).2.1, .i (x1.getD n2 q1dT51).2.2.1, .i (x1.getD n2 q1dT51).2.2.2.1, .i (x1.getD n2 q1dT51).2.2.2.2.1, .str (x1.getD n2 q1dT51).2.2.2.2.2.1, .str (x1.getD n2 q1dT51).2.2.2.2.2.2, .opq, .opq, .opq, .opq, .opq, .opq, .opq, .opq, .opq, .opq, .opq, .opq, .opq, .opq, .opq, .opq, .opq, .opq, .opq, .opq, .opq]], [], [], [], .tup [.i r6.1, .bool r6.2], [], [], []⟩)] ⟨94, [(0, q1aT51 x1), (2, .ptr 2 0), (4, .ptr 4 0), (6, .ptr 6 0), (7, .i r6.1), (8, .bool r6.2), (15, q1aT51 x1), (16, .i (lZ x1)), (17, .i (n2 : Int))], [(2, .cells 60 (f22z0)), (4, .cells 60 (f22z4 i3 i4 i5)), (6, .cells 51 [.i (x1.getD n2 q1dT51).1, .i (x1.getD n2 q1dT51).2.1, .i (x1.getD n2 q1dT51).2.2.1, .i (x1.getD n2 q1dT51).2.2.2.1, .i (x1.getD n2 q1dT51).2.2.2.2.1, .str (x1.getD n2 q1dT51).2.2.2.2.2.1, .str (x1.getD n2 q1dT51).2.2.2.2.2.2, .opq, .opq, .opq, .opq, .opq, .opq, .opq, .opq, .opq, .opq, .opq, .opq, .opq, .opq, .opq, .opq, .opq, .opq, .opq, .opq, .opq])], [], 0⟩ (an1 (cpT (f50_ok _ _ _ _ _ _ _ _ hr6))) ?_
        refine thenQ_normal ?_
        refine AWp.seq ?_
        refine q1rq [] [] ⟨94, [(0, q1aT51 x1), (2, .ptr 2 0), (4, .ptr 4 0), (6, .ptr 6 0), (7, .i r6.1), (15, q1aT51 x1), (16, .i (lZ x1)), (17, .i (n2 : Int)), (27, .bool (!r6.2))], [(2, .cells 60 (f22z0)), (4, .cells 60 (f22z4 i3 i4 i5)), (6, .cells 51 [.i (x1.getD n2 q1dT51).1, .i (x1.getD n2 q1dT51).2.1, .i (x1.getD n2 q1dT51).2.2.1, .i (x1.getD n2 q1dT51).2.2.2.1, .i (x1.getD n2 q1dT51).2.2.2.2.1, .str (x1.getD n2 q1dT51).2.2.2.2.2.1, .str (x1.getD n2 q1dT51).2.2.2.2.2.2, .opq, .opq, .opq, .opq, .opq, .opq, .opq, .opq, .opq, .opq, .opq, .opq, .opq, .opq, .opq, .opq, .opq, .opq, .opq, .opq, .opq])], [], 0⟩ trivial ?_
        refine AWp.cond (b := (!r6.2)) (by kernel_rfl) (fun hc2 => ?_) (fun hc2 => ?_)
        ·
          replace h := ite_tb hc2 h
          refine AWp.exit ?_
          refine thenQ_exit ?_
          refine blockQ_same ?_
          exact joinQ_normal (i3, i4, i5) (Le.mk rfl rfl ⟨.refl _, .refl _, .refl _, .refl _, .refl _, .refl _, trivial⟩ ⟨⟨_, rfl, .refl _⟩, ⟨_, rfl, .refl _⟩, trivial⟩) h
        ·
          replace h := ite_fb hc2 h
          refine AWp.skip ?_
          refine thenQ_normal ?_
          refine q1rq [] [] ⟨94, [(0, q1aT51 x1), (2, .ptr 2 0), (4, .ptr 4 0), (6, .ptr 6 0), (7, .i r6.1), (15, q1aT51 x1), (16, .i (lZ x1)), (17, .i (n2 : Int)), (28, q1aT51 x1), (29, .i (lZ x1)), (30, .i (0 : Int))], [(2, .cells 60 (f22z0)), (4, .cells 60 (f22z4 i3 i4 i5)), (6, .cells 51 [.i (x1.getD n2 q1dT51).1, .i (x1.getD n2 q1dT51).2.1, .i (x1.getD n2 q1dT51).2.2.1, .i (x1.getD n2 q1dT51).2.2.2.1, .i (x1.getD n2 q1dT51).2.2.2.2.1, .str (x1.getD n2 q1dT51).2.2.2.2.2.1, .str (x1.getD n2 q1dT51).2.2.2.2.2.2, .opq, .opq, .opq, .opq, .opq, .opq, .opq, .opq, .opq, .opq, .opq, .opq, .opq, .opq, .opq, .opq, .opq, .opq, .opq, .opq, .opq])], [], 0⟩ trivial ?_
          refine AWp.block ?_
          refine AWp.loopL (α := Nat × (Nat × Int × Int × Int)) (fun x => match x with | (_, n10, i11, i12, i13) => ⟨94, [(0, q1aT51 x1), (2, .ptr 2 0), (4, .ptr 4 0), (6, .ptr 6 0), (7, .i r6.1), (15, q1aT51 x1), (16, .i (lZ x1)), (17, .i (n2 : Int)), (28, q1aT51 x1), (29, .i (lZ x1)), (30, .i (n10 : Int))], [(2, .cells 60 (f22z0)), (4, .cells 60 (f22z2 i11 i12 i13)), (6, .cells 51 [.i (x1.getD n2 q1dT51).1, .i (x1.getD n2 q1dT51).2.1, .i (x1.getD n2 q1dT51).2.2.1, .i (x1.getD n2 q1dT51).2.2.2.1, .i (x1.getD n2 q1dT51).2.2.2.2.1, .str (x1.getD n2 q1dT51).2.2.2.2.2.1, .str (x1.getD n2 q1dT51).2.2.2.2.2.2, .opq, .opq, .opq, .opq, .opq, .opq, .opq, .opq, .opq, .opq, .opq, .opq, .opq, .opq, .opq, .opq, .opq, .opq, .opq, .opq, .opq])], [], 0⟩) (fun x => f22_L1 x1 n2 K2 r6 x.1 x.2 = some r) (fun x => x.1) (FUEL, 0, i3, i4, i5) (Le.mk (s' := ⟨94, [(0, q1aT51 x1), (2, .ptr 2 0), (4, .ptr 4 0), (6, .ptr 6 0), (7, .i r6.1), (15, q1aT51 x1), (16, .i (lZ x1)), (17, .i (n2 : Int)), (28, q1aT51 x1), (29, .i (lZ x1)), (30, .i (0 : Int))], [(2, .cells 60 (f22z0)), (4, .cells 60 (f22z4 i3 i4 i5)), (6, .cells 51 [.i (x1.getD n2 q1dT51).1, .i (x1.getD n2 q1dT51).2.1, .i (x1.getD n2 q1dT51).2.2.1, .i (x1.getD n2 q1dT51).2.2.2.1, .i (x1.getD n2 q1dT51).2.2.2.2.1, .str (x1.getD n2 q1dT51).2.2.2.2.2.1, .str (x1.getD n2 q1dT51).2.2.2.2.2.2, .opq, .opq, .opq, .opq, .opq, .opq, .opq, .opq, .opq, .opq, .opq, .opq, .opq, .opq, .opq, .opq, .opq, .opq, .opq, .opq, .opq])], [], 0⟩) rfl rfl ⟨.refl _, .refl _, .refl _, .refl _, .refl _, .refl _, .refl _, .refl _, .refl _, .refl _, .refl _, trivial⟩ ⟨⟨_, rfl, .refl _⟩, ⟨_, rfl, .refl _⟩, ⟨_, rfl, .refl _⟩, trivial⟩) h ?_
          rintro ⟨k1, n10, i11, i12, i13⟩ h
          cases k1 with
          | zero => exact nomatch (show (none : Option (Int × Int × Int × Int)) = some r from h)
          | succ k1 =>
          obtain ⟨C1, hC1⟩ : ∃ C, C = f22_L1 x1 n2 K2 r6 k1 := ⟨_, rfl⟩
          replace h := (f22_L1.eq_2 ..).symm.trans h
          try rw [← hC1] at h
          refine q1rq [] [] ⟨94, [(0, q1aT51 x1), (2, .ptr 2 0), (4, .ptr 4 0), (6, .ptr 6 0), (7, .i r6.1), (15, q1aT51 x1), (16, .i (lZ x1)), (17, .i (n2 : Int)), (28, q1aT51 x1), (29, .i (lZ x1)), (30, .i (n10 : Int)), (31, .bool (decide ((n10 : Int) < (lZ x1))))], [(2, .cells 60 (f22z0)), (4, .cells 60 (f22z2 i11 i12 i13)), (6, .cells 51 [.i (x1.getD n2 q1dT51).1, .i (x1.getD n2 q1dT51).2.1, .i (x1.getD n2 q1dT51).2.2.1, .i (x1.getD n2 q1dT51).2.2.2.1, .i (x1.getD n2 q1dT51).2.2.2.2.1, .str (x1.getD n2 q1dT51).2.2.2.2.2.1, .str (x1.getD n2 q1dT51).2.2.2.2.2.2, .opq, .opq, .opq, .opq, .opq, .opq, .opq, .opq, .opq, .opq, .opq, .opq, .opq, .opq, .opq, .opq, .opq, .opq, .opq, .opq, .opq])], [], 0⟩ trivial ?_
          refine AWp.seq ?_
          refine AWp.cond (b := (decide ((n10 : Int) < (lZ x1)))) (by kernel_rfl) (fun hc3 => ?_) (fun hc3 => ?_)
          ·
            replace h := ite_tb hc3 h
            refine AWp.skip ?_
            refine thenQ_normal ?_
            obtain ⟨K3, hK3, h⟩ := jn_some h
            refine AWp.join (α := Int × Int × Int) (fun (x : Int × Int × Int) => match x with | (i15, i16, i17) => ⟨94, [(0, q1aT51 x1), (2, .ptr 2 0), (4, .ptr 4 0), (6, .ptr 6 0), (7, .i r6.1), (15, q1aT51 x1), (16, .i (lZ x1)), (17, .i (n2 : Int)), (28, q1aT51 x1), (29, .i (lZ x1)), (30, .i (n10 : Int))], [(2, .cells 60 (f22z0)), (4, .cells 60 [.i i15, .i i16, .i i17]), (6, .cells 51 [.i (x1.getD n2 q1dT51).1, .i (x1.getD n2 q1dT51).2.1, .i (x1.getD n2 q1dT51).2.2.1, .i (x1.getD n2 q1dT51).2.2.2.1, .i (x1.getD n2 q1dT51).2.2.2.2.1, .str (x1.getD n2 q1dT51).2.2.2.2.2.1, .str (x1.getD n2 q1dT51).2.2.2.2.2.2, .opq, .opq, .opq, .opq, .opq, .opq, .opq, .opq, .opq, .opq, .opq, .opq, .opq, .opq, .opq, .opq, .opq, .opq, .opq, .opq, .opq])], [], 0⟩) (fun x => K3 x = some r) ?_ ?_
            ·
              refine AWp.block ?_
              refine AWp.seq ?_
              obtain ⟨ob1p, h⟩ := chk_some h
              have ob1 : 0 ≤ (n10 : Int) ∧ (n10 : Int) < (((x1).length : Nat) : Int) := ⟨by omega, ob1p⟩
              refine q1rr [] [] ⟨94, [(0, q1aT51 x1), (2, .ptr 2 0), (4, .ptr 4 0), (6, .ptr 6 0), (7, .i r6.1), (10, .ptr 10 0), (15, q1aT51 x1), (16, .i (lZ x1)), (17, .i (n2 : Int)), (28, q1aT51 x1), (29, .i (lZ x1)), (30, .i (n10 : Int))], [(2, .cells 60 (f22z0)), (4, .cells 60 (f22z2 i11 i12 i13)), (6, .cells 51 [.i (x1.getD n2 q1dT51).1, .i (x1.getD n2 q1dT51).2.1, .i (x1.getD n2 q1dT51).2.2.1, .i (x1.getD n2 q1dT51).2.2.2.1, .i (x1.getD n2 q1dT51).2.2.2.2.1, .str (x1.getD n2 q1dT51).2.2.2.2.2.1, .str (x1.getD n2 q1dT51).2.2.2.2.2.2, .opq, .opq, .opq, .opq, .opq, .opq, .opq, .opq, .opq, .opq, .opq, .opq, .opq, .opq, .opq, .opq, .opq, .opq, .opq, .opq, .opq]), (10, .cells 51 [.i (x1.getD n10 q1dT51).1, .i (x1.getD n10 q1dT51).2.1, .i (x1.getD n10 q1dT51).2.2.1, .i (x1.getD n10 q1dT51).2.2.2.1, .i (x1.getD n10 q1dT51).2.2.2.2.1, .str (x1.getD n10 q1dT51).2.2.2.2.2.1, .str (x1.getD n10 q1dT51).2.2.2.2.2.2, .opq, .opq, .opq, .opq, .opq, .opq, .opq, .opq, .opq, .opq, .opq, .opq, .opq, .opq, .opq, .opq, .opq, .opq, .opq, .opq, .opq])], [], 0⟩ (an2 ob1 trivial) ?_
              refine thenQ_normal ?_
              refine AWp.seq ?_
              obtain ⟨r14, hr14, h⟩ := bind_ok h
              refine q1rr [] [(1, ⟨[.agg [.i (x1.getD n10 q1dT51).1, .i (x1.getD n10 q1dT51).2.1, .i (x1.getD n10 q1dT51).2.2.1, .i (x1.getD n10 q1dT51).2.2.2.1, .i (x1.getD n10 q1dT51).2.2.2.2.1, .str (x1.getD n10 q1dT51).2.2.2.2.2.1, .str (x1.getD n10 q1dT51).2.2.2.2.2.2, .opq, .opq, .opq, .opq, .opq, .opq, .opq, .opq, .opq, .opq, .opq, .opq, .opq, .opq, .opq, .opq, .opq, .opq, .opq, .opq, .opq]], [], [], [], .tup [.i r14.1, .bool r14.2], [], [], []⟩)] ⟨94, [(0, q1aT51 x1), (2, .ptr 2 0), (4, .ptr 4 0), (6, .ptr 6 0), (7, .i r6.1), (10, .ptr 10 0), (11, .i r14.1), (12, .bool r14.2), (15, q1aT51 x1), (16, .i (lZ x1)), (17, .i (n2 : Int)), (28, q1aT51 x1), (29, .i (lZ x1)), (30, .i (n10 : Int))], [(2, .cells 60 (f22z0)), (4, .cells 60 (f22z2 i11 i12 i13)), (6, .cells 51 [.i (x1.getD n2 q1dT51).1, .i (x1.getD n2 q1dT51).2.1, .i (x1.getD n2 q1dT51).2.2.1, .i (x1.getD n2 q1dT51).2.2.2.1, .i (x1.getD n2 q1dT51).2.2.2.2.1, .str (x1.getD n2 q1dT51).2.2.2.2.2.1, .str (x1.getD n2 q1dT51).2.2.2.2.2.2, .opq, .opq, .opq, .opq, .opq, .opq, .opq, .opq, .opq, .opq, .opq, .opq, .opq, .opq, .opq, .opq, .opq, .opq, .opq, .opq, .opq]), (10, .cells 51 [.i (x1.getD n10 q1dT51).1, .i (x1.getD n10 q1dT51).2.1, .i (x1.getD n10 q1dT51).2.2.1, .i (x1.getD n10 q1dT51).2.2.2.1, .i (x1.getD n10 q1dT51).2.2.2.2.1, .str (x1.getD n10 q1dT51).2.2.2.2.2.1, .str (x1.getD n10 q1dT51).2.2.2.2.2.2, .opq, .opq, .opq, .opq, .opq, .opq, .opq, .opq, .opq, .opq, .opq, .opq, .opq, .opq, .opq, .opq, .opq, .opq, .opq, .opq, .opq])], [], 0⟩ (an1 (cpT (f50_ok _ _ _ _ _ _ _ _ hr14))) ?_
              refine thenQ_normal ?_
              refine AWp.seq ?_
              refine AWp.seq ?_
              have ob2 := idA (((!r14.2) == false) = true)
              have ob3 := idA (((!r14.2) == false) = true)
              have ob4 := bqA (!r14.2) false
              have ob5 := idA (((f22z1 r14 r6) == false) = true)
              have ob6 := idA (((f22z1 r14 r6) == false) = true)
              have ob7 := idA (((f22z1 r14 r6) == false) = true)
              have ob8 := idA (((f22z1 r14 r6) == false) = true)
              have ob9 := bqA (f22z1 r14 r6) false
              have ob10 := idA ((((f22z1 r14 r6) || ((x1.getD n2 q1dT51).2.2.2.1 != (x1.getD n10 q1dT51).2.2.2.1)) == false) = true)
              have ob11 := idA ((((f22z1 r14 r6) || ((x1.getD n2 q1dT51).2.2.2.1 != (x1.getD n10 q1dT51).2.2.2.1)) == false) = true)
              have ob12 := idA ((((f22z1 r14 r6) || ((x1.getD n2 q1dT51).2.2.2.1 != (x1.getD n10 q1dT51).2.2.2.1)) == false) = true)
              have ob13 := idA ((((f22z1 r14 r6) || ((x1.getD n2 q1dT51).2.2.2.1 != (x1.getD n10 q1dT51).2.2.2.1)) == false) = true)
              have ob14 := bqA ((f22z1 r14 r6) || ((x1.getD n2 q1dT51).2.2.2.1 != (x1.getD n10 q1dT51).2.2.2.1)) false
              refine q1rr [] [] ⟨94, [(0, q1aT51 x1), (2, .ptr 2 0), (4, .ptr 4 0), (6, .ptr 6 0), (7, .i r6.1), (11, .i r14.1), (15, q1aT51 x1), (16, .i (lZ x1)), (17, .i (n2 : Int)), (28, q1aT51 x1), (29, .i (lZ x1)), (30, .i (n10 : Int)), (59, .bool (((f22z1 r14 r6) || ((x1.getD n2 q1dT51).2.2.2.1 != (x1.getD n10 q1dT51).2.2.2.1)) || (((x1.getD n2 q1dT51).2.2.2.2.2.1) == ((x1.getD n10 q1dT51).2.2.2.2.2.1))))], [(2, .cells 60 (f22z0)), (4, .cells 60 (f22z2 i11 i12 i13)), (6, .cells 51 [.i (x1.getD n2 q1dT51).1, .i (x1.getD n2 q1dT51).2.1, .i (x1.getD n2 q1dT51).2.2.1, .i (x1.getD n2 q1dT51).2.2.2.1, .i (x1.getD n2 q1dT51).2.2.2.2.1, .str (x1.getD n2 q1dT51).2.2.2.2.2.1, .str (x1.getD n2 q1dT51).2.2.2.2.2.2, .opq, .opq, .opq, .opq, .opq, .opq, .opq, .opq, .opq, .opq, .opq, .opq, .opq, .opq, .opq, .opq, .opq, .opq, .opq, .opq, .opq])], [], 0⟩ (ac6 (an2 ob2 ob3) ob4 (an1 ob5) (an1 ob6) (an2 ob7 ob8) ob9 (an4 (an1 ob10) (an1 ob11) (an2 ob12 ob13) ob14)) ?_
              refine thenQ_normal ?_
              refine AWp.cond (b := (((f22z1 r14 r6) || ((x1.getD n2 q1dT51).2.2.2.1 != (x1.getD n10 q1dT51).2.2.2.1)) || (((x1.getD n2 q1dT51).2.2.2.2.2.1) == ((x1.getD n10 q1dT51).2.2.2.2.2.1)))) (by kernel_rfl) (fun hc4 => ?_) (fun hc4 => ?_)
              ·
                replace h := ite_tb hc4 h
                refine AWp.exit ?_
                refine thenQ_exit ?_
                refine blockQ_same ?_
                exact joinQ_normal (i11, i12, i13) (Le.mk rfl rfl ⟨.refl _, .refl _, .refl _, .refl _, .refl _, .refl _, .refl _, .refl _, .refl _, .refl _, .refl _, trivial⟩ ⟨⟨_, rfl, .refl _⟩, ⟨_, rfl, .refl _⟩, ⟨_, rfl, .refl _⟩, trivial⟩) h
              ·
                replace h := ite_fb hc4 h
                refine AWp.skip ?_
                refine thenQ_normal ?_
                refine q1rq [] [] ⟨94, [(0, q1aT51 x1), (2, .ptr 2 0), (4, .ptr 4 0), (6, .ptr 6 0), (7, .i r6.1), (13, .ptr 13 0), (15, q1aT51 x1), (16, .i (lZ x1)), (17, .i (n2 : Int)), (28, q1aT51 x1), (29, .i (lZ x1)), (30, .i (n10 : Int))], [(2, .cells 60 (f22z0)), (4, .cells 60 (f22z2 i11 i12 i13)), (6, .cells 51 [.i (x1.getD n2 q1dT51).1, .i (x1.getD n2 q1dT51).2.1, .i (x1.getD n2 q1dT51).2.2.1, .i (x1.getD n2 q1dT51).2.2.2.1, .i (x1.getD n2 q1dT51).2.2.2.2.1, .str (x1.getD n2 q1dT51).2.2.2.2.2.1, .str (x1.getD n2 q1dT51).2.2.2.2.2.2, .opq, .opq, .opq, .opq, .opq, .opq, .opq, .opq, .opq, .opq, .opq, .opq, .opq, .opq, .opq, .opq, .opq, .opq, .opq, .opq, .opq]), (13, .cells 60 [.i (x1.getD n2 q1dT51).2.2.2.1, .i r6.1, .i r14.1])], [], 0⟩ (an1 trivial) ?_
                refine AWp.seq ?_
                by_cases hg13_3 : (decide (i12 < (0 : Int))) = true
                ·
                  replace h := ite_t hg13_3 h
                  have ob15 := idA (false = true)
                  have ob16 := idA (false = true)
                  have ob17 := idA (false = true)
                  have ob18 := idA (false = true)
                  have ob19 := idA (false = true)
                  have ob20 := idA (false = true)
                  have ob21 := idA (false = true)
                  have ob22 := idA (false = true)
                  have ob23 : true = true → true = false → false = true := by first | decide | omega | simp | (intro h; cases h)
                  refine q1rr [] [(3, ⟨[], [], [], [], (.bool true), [], [0], []⟩), (18, ⟨[], [], [], [], .any, [], [], []⟩)] ⟨94, [(0, q1aT51 x1), (2, .ptr 2 0), (4, .ptr 4 0), (6, .ptr 6 0), (7, .i r6.1), (13, .ptr 13 0), (15, q1aT51 x1), (16, .i (lZ x1)), (17, .i (n2 : Int)), (28, q1aT51 x1), (29, .i (lZ x1)), (30, .i (n10 : Int)), (85, .bool true)], [(2, .cells 60 (f22z0)), (4, .cells 60 (f22z2 i11 i12 i13)), (6, .cells 51 [.i (x1.getD n2 q1dT51).1, .i (x1.getD n2 q1dT51).2.1, .i (x1.getD n2 q1dT51).2.2.1, .i (x1.getD n2 q1dT51).2.2.2.1, .i (x1.getD n2 q1dT51).2.2.2.2.1, .str (x1.getD n2 q1dT51).2.2.2.2.2.1, .str (x1.getD n2 q1dT51).2.2.2.2.2.2, .opq, .opq, .opq, .opq, .opq, .opq, .opq, .opq, .opq, .opq, .opq, .opq, .opq, .opq, .opq, .opq, .opq, .opq, .opq, .opq, .opq]), (13, .cells 60 [.i (x1.getD n2 q1dT51).2.2.2.1, .i r6.1, .i r14.1])], [], 0⟩ (ac6 (show ((.bool (decide (i12 < (0 : Int)))) : V) = (.bool true) from (congrArg (fun x => ((.bool x) : V)) hg13_3)) (an1 ob15) (an1 ob16) (an1 ob17) (an1 ob18) (an1 ob19) (an3 (an1 ob20) (And.intro (show (callP Tryz.prog false 51 [] [] [] [] [] [.bool false, .bool false] [] (.any) []) from ⟨nofun, nofun, .inl rfl⟩) (an2 ob21 ob22)) ob23)) ?_
                  refine thenQ_normal ?_
                  refine AWp.cond (b := true) (by kernel_rfl) (fun hc => ?_) (fun hc => ?_)
                  ·
                    clear hc
                    refine q1rr [] [] ⟨94, [(0, q1aT51 x1), (2, .ptr 2 0), (4, .ptr 4 0), (6, .ptr 6 0), (7, .i r6.1), (15, q1aT51 x1), (16, .i (lZ x1)), (17, .i (n2 : Int)), (28, q1aT51 x1), (29, .i (lZ x1)), (30, .i (n10 : Int))], [(2, .cells 60 (f22z0)), (4, .cells 60 [.i (x1.getD n2 q1dT51).2.2.2.1, .i r6.1, .i r14.1]), (6, .cells 51 [.i (x1.getD n2 q1dT51).1, .i (x1.getD n2 q1dT51).2.1, .i (x1.getD n2 q1dT51).2.2.1, .i (x1.getD n2 q1dT51).2.2.2.1, .i (x1.getD n2 q1dT51).2.2.2.2.1, .str (x1.getD n2 q1dT51).2.2.2.2.2.1, .str (x1.getD n2 q1dT51).2.2.2.2.2.2, .opq, .opq, .opq, .opq, .opq, .opq, .opq, .opq, .opq, .opq, .opq, .opq, .opq, .opq, .opq, .opq, .opq, .opq, .opq, .opq, .opq])], [], 0⟩ (an1 trivial) ?_
                    refine blockQ_normal ?_
                    have eq29 : (x1.getD n2 q1dT51).2.2.2.1 = ((x1.getD n2 q1dT51).2.2.2.1) := by first | omega | (simp only [List.length_append, List.length_cons, List.length_nil, List.length_take, List.length_drop] at *; omega) | (simp; done) | (simp_all; done) | (simp_all; omega) | rfl
                    exact joinQ_normal ((x1.getD n2 q1dT51).2.2.2.1, r6.1, r14.1) (Le.mk rfl rfl ⟨.refl _, .refl _, .refl _, .refl _, .refl _, .refl _, .refl _, .refl _, .refl _, .refl _, .refl _, trivial⟩ ⟨⟨_, rfl, .refl _⟩, ⟨_, rfl, (.cellsL ⟨(.int eq29), .refl _, .refl _, trivial⟩)⟩, ⟨_, rfl, .refl _⟩, trivial⟩) h
                  ·
                    cases hc
                ·
                  replace h := ite_f hg13_3 h
                  obtain ⟨r18, hr18, h⟩ := bind_ok h
                  have ob15 := idA (true = true)
                  have ob16 := idA (true = true)
                  have ob17 := idA (true = true)
                  have ob18 := idA (true = true)
                  have ob19 := idA (true = true)
                  have ob20 := idA (true = true)
                  have ob21 := idA (true = true)
                  have ob22 := idA (true = true)
                  have ob23 := idA (true = true)
                  have ob24 := idA (true = true)
                  have ob25 := idA (true = true)
                  have ob26 := idA (true = true)
                  have ob27 := idA (true = true)
                  have ob28 : true = true → false = false → true = true := by first | decide | omega | simp | (intro h; cases h)
                  refine q1rr [] [(3, ⟨[], [], [], [], (.bool false), [], [0], []⟩), (18, ⟨[q1aI [(x1.getD n2 q1dT51).2.2.2.1, r6.1, r14.1], q1aI [i11, i12, i13]], [], [], [], .i r18, [], [75, 82], []⟩)] ⟨94, [(0, q1aT51 x1), (2, .ptr 2 0), (4, .ptr 4 0), (6, .ptr 6 0), (7, .i r6.1), (13, .ptr 13 0), (15, q1aT51 x1), (16, .i (lZ x1)), (17, .i (n2 : Int)), (28, q1aT51 x1), (29, .i (lZ x1)), (30, .i (n10 : Int)), (85, .bool (decide (r18 < (0 : Int))))], [(2, .cells 60 (f22z0)), (4, .cells 60 (f22z2 i11 i12 i13)), (6, .cells 51 [.i (x1.getD n2 q1dT51).1, .i (x1.getD n2 q1dT51).2.1, .i (x1.getD n2 q1dT51).2.2.1, .i (x1.getD n2 q1dT51).2.2.2.1, .i (x1.getD n2 q1dT51).2.2.2.2.1, .str (x1.getD n2 q1dT51).2.2.2.2.2.1, .str (x1.getD n2 q1dT51).2.2.2.2.2.2, .opq, .opq, .opq, .opq, .opq, .opq, .opq, .opq, .opq, .opq, .opq, .opq, .opq, .opq, .opq, .opq, .opq, .opq, .opq, .opq, .opq]), (13, .cells 60 [.i (x1.getD n2 q1dT51).2.2.2.1, .i r6.1, .i r14.1])], [], 0⟩ (ac6 (show ((.bool (decide (i12 < (0 : Int)))) : V) = (.bool false) from (congrArg (fun x => ((.bool x) : V)) (Bool.eq_false_iff.2 hg13_3))) (an1 ob15) (an1 ob16) (an1 ob17) (an3 ob18 ob19 ob20) (an1 ob21) (an6 (an1 ob22) (an1 ob23) (an3 ob24 ob25 ob26) (cpL (c := true) [(75, .rows 3 1 3 (lstF 1 [.i (x1.getD n2 q1dT51).2.2.2.1, .i r6.1, .i r14.1])), (82, .rows 3 1 3 (lstF 1 (f22z2 i11 i12 i13)))] [75, 82] [.own 75, .own 82] (fun _ => (f51_ok _ _ _ hr18)) (fun _ => ⟨(VLe.of (RL.lst (enc := eI) [(x1.getD n2 q1dT51).2.2.2.1, r6.1, r14.1] rfl rfl (fun _ => rfl))), (VLe.of (RL.lst (enc := eI) [i11, i12, i13] rfl rfl (fun _ => rfl))), trivial⟩) (.inr ⟨rfl, trivial⟩)) (an1 ob27) ob28)) ?_
                  refine thenQ_normal ?_
                  refine AWp.cond (b := (decide (r18 < (0 : Int)))) (by kernel_rfl) (fun hc6 => ?_) (fun hc6 => ?_)
                  ·
                    replace h := ite_tb hc6 h
                    refine q1rr [] [] ⟨94, [(0, q1aT51 x1), (2, .ptr 2 0), (4, .ptr 4 0), (6, .ptr 6 0), (7, .i r6.1), (15, q1aT51 x1), (16, .i (lZ x1)), (17, .i (n2 : Int)), (28, q1aT51 x1), (29, .i (lZ x1)), (30, .i (n10 : Int))], [(2, .cells 60 (f22z0)), (4, .cells 60 [.i (x1.getD n2 q1dT51).2.2.2.1, .i r6.1, .i r14.1]), (6, .cells 51 [.i (x1.getD n2 q1dT51).1, .i (x1.getD n2 q1dT51).2.1, .i (x1.getD n2 q1dT51).2.2.1, .i (x1.getD n2 q1dT51).2.2.2.1, .i (x1.getD n2 q1dT51).2.2.2.2.1, .str (x1.getD n2 q1dT51).2.2.2.2.2.1, .str (x1.getD n2 q1dT51).2.2.2.2.2.2, .opq, .opq, .opq, .opq, .opq, .opq, .opq, .opq, .opq, .opq, .opq, .opq, .opq, .opq, .opq, .opq, .opq, .opq, .opq, .opq, .opq])], [], 0⟩ (an1 trivial) ?_
                    refine blockQ_normal ?_
                    have eq30 : (x1.getD n2 q1dT51).2.2.2.1 = ((x1.getD n2 q1dT51).2.2.2.1) := by first | omega | (simp only [List.length_append, List.length_cons, List.length_nil, List.length_take, List.length_drop] at *; omega) | (simp; done) | (simp_all; done) | (simp_all; omega) | rfl
                    exact joinQ_normal ((x1.getD n2 q1dT51).2.2.2.1, r6.1, r14.1) (Le.mk rfl rfl ⟨.refl _, .refl _, .refl _, .refl _, .refl _, .refl _, .refl _, .refl _, .refl _, .refl _, .refl _, trivial⟩ ⟨⟨_, rfl, .refl _⟩, ⟨_, rfl, (.cellsL ⟨(.int eq30), .refl _, .refl _, trivial⟩)⟩, ⟨_, rfl, .refl _⟩, trivial⟩) h
                  ·
                    replace h := ite_fb hc6 h
                    refine AWp.skip ?_
                    refine blockQ_normal ?_
                    exact joinQ_normal (i11, i12, i13) (Le.mk rfl rfl ⟨.refl _, .refl _, .refl _, .refl _, .refl _, .refl _, .refl _, .refl _, .refl _, .refl _, .refl _, trivial⟩ ⟨⟨_, rfl, .refl _⟩, ⟨_, rfl, .refl _⟩, ⟨_, rfl, .refl _⟩, trivial⟩) h
            ·
              rintro ⟨i15, i16, i17⟩ h
              replace h := (congrFun hK3 _).symm.trans h
              obtain ⟨ob31p, h⟩ := chk_some h
              have ob31 : -9223372036854775808 ≤ ((n10 : Int) + (1 : Int)) ∧ ((n10 : Int) + (1 : Int)) ≤ 9223372036854775807 := ⟨by omega, ob31p⟩
              refine q1rr [] [] ⟨94, [(0, q1aT51 x1), (2, .ptr 2 0), (4, .ptr 4 0), (6, .ptr 6 0), (7, .i r6.1), (15, q1aT51 x1), (16, .i (lZ x1)), (17, .i (n2 : Int)), (28, q1aT51 x1), (29, .i (lZ x1)), (30, .i (((n10 + 1) : Nat) : Int))], [(2, .cells 60 (f22z0)), (4, .cells 60 [.i i15, .i i16, .i i17]), (6, .cells 51 [.i (x1.getD n2 q1dT51).1, .i (x1.getD n2 q1dT51).2.1, .i (x1.getD n2 q1dT51).2.2.1, .i (x1.getD n2 q1dT51).2.2.2.1, .i (x1.getD n2 q1dT51).2.2.2.2.1, .str (x1.getD n2 q1dT51).2.2.2.2.2.1, .str (x1.getD n2 q1dT51).2.2.2.2.2.2, .opq, .opq, .opq, .opq, .opq, .opq, .opq, .opq, .opq, .opq, .opq, .opq, .opq, .opq, .opq, .opq, .opq, .opq, .opq, .opq, .opq])], [], 0⟩ (an1 ob31) ?_
              rw [hC1] at h
              exact loopQ_normal (_, (n10 + 1), i15, i16, i17) (Le.mk rfl rfl ⟨.refl _, .refl _, .refl _, .refl _, .refl _, .refl _, .refl _, .refl _, .refl _, .refl _, .refl _, trivial⟩ ⟨⟨_, rfl, .refl _⟩, ⟨_, rfl, .refl _⟩, ⟨_, rfl, .refl _⟩, trivial⟩) h (Nat.lt_succ_self _)
          ·
            replace h := ite_fb hc3 h
            refine AWp.exit ?_
            refine thenQ_exit ?_
            refine thenQ_exit ?_
            refine blockQ_same ?_
            refine blockQ_normal ?_
            exact joinQ_normal (i11, i12, i13) (Le.mk rfl rfl ⟨.refl _, .refl _, .refl _, .refl _, .refl _, .refl _, trivial⟩ ⟨⟨_, rfl, .refl _⟩, ⟨_, rfl, .refl _⟩, trivial⟩) h
      ·
        rintro ⟨i7, i8, i9⟩ h
        replace h := (congrFun hK2 _).symm.trans h
        obtain ⟨ob32p, h⟩ := chk_some h
        have ob32 : -9223372036854775808 ≤ ((n2 : Int) + (1 : Int)) ∧ ((n2 : Int) + (1 : Int)) ≤ 9223372036854775807 := ⟨by omega, ob32p⟩
        refine q1rr [] [] ⟨94, [(0, q1aT51 x1), (2, .ptr 2 0), (4, .ptr 4 0), (15, q1aT51 x1), (16, .i (lZ x1)), (17, .i (((n2 + 1) : Nat) : Int))], (f22z5 i7 i8 i9), [], 0⟩ (an1 ob32) ?_
        rw [hC0] at h
        exact loopQ_normal (_, (n2 + 1), i7, i8, i9) (Le.mk rfl rfl ⟨.refl _, .refl _, .refl _, .refl _, .refl _, .refl _, trivial⟩ ⟨⟨_, rfl, .refl _⟩, ⟨_, rfl, .refl _⟩, trivial⟩) h (Nat.lt_succ_self _)
    ·
      replace h := ite_fb hc1 h
      refine AWp.exit ?_
      refine thenQ_exit ?_
      refine thenQ_exit ?_
      refine blockQ_same ?_
      exact joinQ_normal (i3, i4, i5) (Le.mk rfl rfl ⟨.refl _, .refl _, trivial⟩ ⟨⟨_, rfl, .refl _⟩, ⟨_, rfl, .refl _⟩, trivial⟩) h
  ·
    rintro ⟨i19, i20, i21⟩ h
    replace h := (congrFun hK1 _).symm.trans h
    refine AWp.seq ?_
    refine q1rq [] [] ⟨94, [(2, .ptr 2 0), (4, .ptr 4 0), (91, .bool (decide (i20 < (0 : Int))))], [(2, .cells 60 (f22z0)), (4, .cells 60 [.i i19, .i i20, .i i21])], [], 0⟩ trivial ?_
    refine AWp.cond (b := (decide (i20 < (0 : Int)))) (by kernel_rfl) (fun hc7 => ?_) (fun hc7 => ?_)
    ·
      replace h := ite_tb hc7 h
      refine q1rq [] [] ⟨94, [(2, .ptr 2 0), (3, .i (13 : Int))], [(2, .cells 60 (f22z0))], [], 0⟩ (an1 trivial) ?_
      have hret := Option.some.inj h
      subst hret
      refine AWp.le (Le.mk (s' := ⟨94, [(2, .ptr 2 0), (3, .i (13 : Int))], [(2, .cells 60 (f22z0))], [], 0⟩) rfl rfl ⟨.refl _, .refl _, trivial⟩ ⟨⟨_, rfl, .refl _⟩, trivial⟩) ?_
      refine AWp.ret ?_
      refine thenQ_ret ?_
      exact bodyQ_ret _ rfl ⟨rfl, rfl⟩ rfl
    ·
      replace h := ite_fb hc7 h
      refine AWp.skip ?_
      refine thenQ_normal ?_
      refine q1rq [] [] ⟨94, [(2, .ptr 2 0), (3, .i (0 : Int))], [(2, .cells 60 [.i i19, .i i20, .i i21])], [], 0⟩ (an1 trivial) ?_
      have hret := Option.some.inj h
      subst hret
      refine AWp.le (Le.mk (s' := ⟨94, [(2, .ptr 2 0), (3, .i (0 : Int))], [(2, .cells 60 [.i i19, .i i20, .i i21])], [], 0⟩) rfl rfl ⟨.refl _, .refl _, trivial⟩ ⟨⟨_, rfl, .refl _⟩, trivial⟩) ?_
      refine AWp.ret ?_
      exact bodyQ_ret _ rfl ⟨rfl, rfl⟩ rfl
def f44  : Option ((List (Int × List UInt8)) × (List (Int × Bool)) × (List ((Int × Int) × List UInt8)) × (List (Int × Int)) × (List ((Int × Int) × List UInt8)) × (List ((Int × Int × List UInt8) × Bool)) × (List ((Int × Int) × Bool))) :=
  some ([], [], [], [], [], [], [])
set_option maxRecDepth 100000 in
theorem f44_ok   (r : (List (Int × List UInt8)) × (List (Int × Bool)) × (List ((Int × Int) × List UInt8)) × (List (Int × Int)) × (List ((Int × Int) × List UInt8)) × (List ((Int × Int × List UInt8) × Bool)) × (List ((Int × Int) × Bool))) (h : f44 = some r)  : Spec1 Tryz.prog 44 [] [] [] [] (.agg [.own 3000, .own 3001, .own 3002, .own 3003, .own 3004, .own 3005, .own 3006]) [(3000, bP (V.int .i64) 0 m108 [] r.1), (3001, bP (V.int .i64) 0 m109 false r.2.1), (3002, bP mk110E (default : Int × Int) m110 [] r.2.2.1), (3003, bP (V.int .i64) 0 m111 0 r.2.2.2.1), (3004, bP mk110E (default : Int × Int) m110 [] r.2.2.2.2.1), (3005, bP mk112E (default : Int × Int × List UInt8) m112 false r.2.2.2.2.2.1), (3006, bP mk113E (default : Int × Int) m113 false r.2.2.2.2.2.2)] := by
  unfold f44 at h
  refine Spec1.bodyD [0] 0 _ _ Tryz.func44 rfl Tryz.ntmps44 rfl rfl ?_
  refine q1rq [] [] ⟨9, [(0, .ptr 0 0)], [(0, .cells 115 [.lit (.map none), .lit (.map none), .lit (.map none), .lit (.map none), .lit (.map none), .lit (.map none), .lit (.map none)])], [], 0⟩ trivial ?_
  refine q1rq [] [(0, ⟨[], [], [], [(1, bP (V.int .i64) 0 m108 [] [])], .own 1, [1], [], []⟩), (1, ⟨[], [], [], [(2, bP (V.int .i64) 0 m109 false [])], .own 2, [2], [], []⟩), (2, ⟨[], [], [], [(3, bP mk110E q1dII m110 [] [])], .own 3, [3], [], []⟩), (3, ⟨[], [], [], [(4, bP (V.int .i64) 0 m111 0 [])], .own 4, [4], [], []⟩), (4, ⟨[], [], [], [(5, bP mk110E q1dII m110 [] [])], .own 5, [5], [], []⟩), (5, ⟨[], [], [], [(6, bP mk112E q1dIIS m112 false [])], .own 6, [6], [], []⟩), (6, ⟨[], [], [], [(7, bP mk113E q1dII m113 false [])], .own 7, [7], [], []⟩)] ⟨9, [(0, .ptr 0 0)], [(0, .cells 115 [.own 1, .own 2, .own 3, .own 4, .own 5, .own 6, .own 7]), (1, bP (V.int .i64) 0 m108 [] []), (2, bP (V.int .i64) 0 m109 false []), (3, bP mk110E q1dII m110 [] []), (4, bP (V.int .i64) 0 m111 0 []), (5, bP mk110E q1dII m110 [] []), (6, bP mk112E q1dIIS m112 false []), (7, bP mk113E q1dII m113 false [])], [], 0⟩ (ac6 (And.intro (makeP_spec (P := Tryz.prog) (V.int .i64) 0 m108 [] 108 1 108) (VLes.same [])) (And.intro (makeP_spec (P := Tryz.prog) (V.int .i64) 0 m109 false 109 2 109) (VLes.same [])) (And.intro (makeP_spec (P := Tryz.prog) mk110E q1dII m110 [] 110 3 110) (VLes.same [])) (And.intro (makeP_spec (P := Tryz.prog) (V.int .i64) 0 m111 0 111 4 111) (VLes.same [])) (And.intro (makeP_spec (P := Tryz.prog) mk110E q1dII m110 [] 110 5 110) (VLes.same [])) (And.intro (makeP_spec (P := Tryz.prog) mk112E q1dIIS m112 false 112 6 112) (VLes.same [])) (an2 (And.intro (makeP_spec (P := Tryz.prog) mk113E q1dII m113 false 113 7 113) (VLes.same [])) trivial)) ?_
  refine AWp.le (Le.trans (Le.ren (swapN 1 3000) (swapN_inv 1 3000) rfl) (Le.mk (s' := ⟨9, [(0, .ptr 0 0)], [(0, .cells 115 [.own 3000, .own 2, .own 3, .own 4, .own 5, .own 6, .own 7]), (3000, bP (V.int .i64) 0 m108 [] []), (2, bP (V.int .i64) 0 m109 false []), (3, bP mk110E q1dII m110 [] []), (4, bP (V.int .i64) 0 m111 0 []), (5, bP mk110E q1dII m110 [] []), (6, bP mk112E q1dIIS m112 false []), (7, bP mk113E q1dII m113 false [])], [], 0⟩) rfl rfl ⟨.refl _, trivial⟩ ⟨⟨_, rfl, .refl _⟩, ⟨_, rfl, .refl _⟩, ⟨_, rfl, .refl _⟩, ⟨_, rfl, .refl _⟩, ⟨_, rfl, .refl _⟩, ⟨_, rfl, .refl _⟩, ⟨_, rfl, .refl _⟩, ⟨_, rfl, .refl _⟩, trivial⟩)) ?_
  refine AWp.le (Le.trans (Le.ren (swapN 2 3001) (swapN_inv 2 3001) rfl) (Le.mk (s' := ⟨9, [(0, .ptr 0 0)], [(0, .cells 115 [.own 3000, .own 3001, .own 3, .own 4, .own 5, .own 6, .own 7]), (3000, bP (V.int .i64) 0 m108 [] []), (3001, bP (V.int .i64) 0 m109 false []), (3, bP mk110E q1dII m110 [] []), (4, bP (V.int .i64) 0 m111 0 []), (5, bP mk110E q1dII m110 [] []), (6, bP mk112E q1dIIS m112 false []), (7, bP mk113E q1dII m113 false [])], [], 0⟩) rfl rfl ⟨.refl _, trivial⟩ ⟨⟨_, rfl, .refl _⟩, ⟨_, rfl, .refl _⟩, ⟨_, rfl, .refl _⟩, ⟨_, rfl, .refl _⟩, ⟨_, rfl, .refl _⟩, ⟨_, rfl, .refl _⟩, ⟨_, rfl, .refl _⟩, ⟨_, rfl, .refl _⟩, trivial⟩)) ?_
  refine AWp.le (Le.trans (Le.ren (swapN 3 3002) (swapN_inv 3 3002) rfl) (Le.mk (s' := ⟨9, [(0, .ptr 0 0)], [(0, .cells 115 [.own 3000, .own 3001, .own 3002, .own 4, .own 5, .own 6, .own 7]), (3000, bP (V.int .i64) 0 m108 [] []), (3001, bP (V.int .i64) 0 m109 false []), (3002, bP mk110E q1dII m110 [] []), (4, bP (V.int .i64) 0 m111 0 []), (5, bP mk110E q1dII m110 [] []), (6, bP mk112E q1dIIS m112 false []), (7, bP mk113E q1dII m113 false [])], [], 0⟩) rfl rfl ⟨.refl _, trivial⟩ ⟨⟨_, rfl, .refl _⟩, ⟨_, rfl, .refl _⟩, ⟨_, rfl, .refl _⟩, ⟨_, rfl, .refl _⟩, ⟨_, rfl, .refl _⟩, ⟨_, rfl, .refl _⟩, ⟨_, rfl, .refl _⟩, ⟨_, rfl, .refl _⟩, trivial⟩)) ?_
  refine AWp.le (Le.trans (Le.ren (swapN 4 3003) (swapN_inv 4 3003) rfl) (Le.mk (s' := ⟨9, [(0, .ptr 0 0)], [(0, .cells 115 [.own 3000, .own 3001, .own 3002, .own 3003, .own 5, .own 6, .own 7]), (3000, bP (V.int .i64) 0 m108 [] []), (3001, bP (V.int .i64) 0 m109 false []), (3002, bP mk110E q1dII m110 [] []), (3003, bP (V.int .i64) 0 m111 0 []), (5, bP mk110E q1dII m110 [] []), (6, bP mk112E q1dIIS m112 false []), (7, bP mk113E q1dII m113 false [])], [], 0⟩) rfl rfl ⟨.refl _, trivial⟩ ⟨⟨_, rfl, .refl _⟩, ⟨_, rfl, .refl _⟩, ⟨_, rfl, .refl _⟩, ⟨_, rfl, .refl _⟩, ⟨_, rfl, .refl _⟩, ⟨_, rfl, .refl _⟩, ⟨_, rfl, .refl _⟩, ⟨_, rfl, .refl _⟩, trivial⟩)) ?_
  refine AWp.le (Le.trans (Le.ren (swapN 5 3004) (swapN_inv 5 3004) rfl) (Le.mk (s' := ⟨9, [(0, .ptr 0 0)], [(0, .cells 115 [.own 3000, .own 3001, .own 3002, .own 3003, .own 3004, .own 6, .own 7]), (3000, bP (V.int .i64) 0 m108 [] []), (3001, bP (V.int .i64) 0 m109 false []), (3002, bP mk110E q1dII m110 [] []), (3003, bP (V.int .i64) 0 m111 0 []), (3004, bP mk110E q1dII m110 [] []), (6, bP mk112E q1dIIS m112 false []), (7, bP mk113E q1dII m113 false [])], [], 0⟩) rfl rfl ⟨.refl _, trivial⟩ ⟨⟨_, rfl, .refl _⟩, ⟨_, rfl, .refl _⟩, ⟨_, rfl, .refl _⟩, ⟨_, rfl, .refl _⟩, ⟨_, rfl, .refl _⟩, ⟨_, rfl, .refl _⟩, ⟨_, rfl, .refl _⟩, ⟨_, rfl, .refl _⟩, trivial⟩)) ?_
  refine AWp.le (Le.trans (Le.ren (swapN 6 3005) (swapN_inv 6 3005) rfl) (Le.mk (s' := ⟨9, [(0, .ptr 0 0)], [(0, .cells 115 [.own 3000, .own 3001, .own 3002, .own 3003, .own 3004, .own 3005, .own 7]), (3000, bP (V.int .i64) 0 m108 [] []), (3001, bP (V.int .i64) 0 m109 false []), (3002, bP mk110E q1dII m110 [] []), (3003, bP (V.int .i64) 0 m111 0 []), (3004, bP mk110E q1dII m110 [] []), (3005, bP mk112E q1dIIS m112 false []), (7, bP mk113E q1dII m113 false [])], [], 0⟩) rfl rfl ⟨.refl _, trivial⟩ ⟨⟨_, rfl, .refl _⟩, ⟨_, rfl, .refl _⟩, ⟨_, rfl, .refl _⟩, ⟨_, rfl, .refl _⟩, ⟨_, rfl, .refl _⟩, ⟨_, rfl, .refl _⟩, ⟨_, rfl, .refl _⟩, ⟨_, rfl, .refl _⟩, trivial⟩)) ?_
  refine AWp.le (Le.trans (Le.ren (swapN 7 3006) (swapN_inv 7 3006) rfl) (Le.mk (s' := ⟨9, [(0, .ptr 0 0)], [(0, .cells 115 [.own 3000, .own 3001, .own 3002, .own 3003, .own 3004, .own 3005, .own 3006]), (3000, bP (V.int .i64) 0 m108 [] []), (3001, bP (V.int .i64) 0 m109 false []), (3002, bP mk110E q1dII m110 [] []), (3003, bP (V.int .i64) 0 m111 0 []), (3004, bP mk110E q1dII m110 [] []), (3005, bP mk112E q1dIIS m112 false []), (3006, bP mk113E q1dII m113 false [])], [], 0⟩) rfl rfl ⟨.refl _, trivial⟩ ⟨⟨_, rfl, .refl _⟩, ⟨_, rfl, .refl _⟩, ⟨_, rfl, .refl _⟩, ⟨_, rfl, .refl _⟩, ⟨_, rfl, .refl _⟩, ⟨_, rfl, .refl _⟩, ⟨_, rfl, .refl _⟩, ⟨_, rfl, .refl _⟩, trivial⟩)) ?_
  have hret := Option.some.inj h
  subst hret
  refine AWp.le (Le.mk (s' := ⟨9, [(0, .ptr 0 0)], [(3000, bP (V.int .i64) 0 m108 [] []), (3001, bP (V.int .i64) 0 m109 false []), (3002, bP mk110E q1dII m110 [] []), (3003, bP (V.int .i64) 0 m111 0 []), (3004, bP mk110E q1dII m110 [] []), (3005, bP mk112E q1dIIS m112 false []), (3006, bP mk113E q1dII m113 false []), (0, .cells 115 [.own 3000, .own 3001, .own 3002, .own 3003, .own 3004, .own 3005, .own 3006])], [], 0⟩) rfl rfl ⟨.refl _, trivial⟩ ⟨⟨_, rfl, .refl _⟩, ⟨_, rfl, .refl _⟩, ⟨_, rfl, .refl _⟩, ⟨_, rfl, .refl _⟩, ⟨_, rfl, .refl _⟩, ⟨_, rfl, .refl _⟩, ⟨_, rfl, .refl _⟩, ⟨_, rfl, .refl _⟩, trivial⟩) ?_
  refine AWp.ret ?_
  exact bodyQ_ret _ rfl ⟨rfl, rfl⟩ rfl
def f192 (x1 : Int) : Option Int :=
  chk (0 ≤ x1 ∧ x1 < ((cs0.length : Nat) : Int)) <|
  chk ((((cs0.getD ((x1).toNat) 0).toNat : Nat) : Int) ≤ 9223372036854775807) <|
  some (((cs0.getD ((x1).toNat) 0).toNat : Nat) : Int)
set_option maxRecDepth 100000 in
theorem f192_ok  (x1 : Int) (r : Int) (h : f192 x1 = some r)  : Spec1 Tryz.prog 192 [] [] [] [.int .u8 x1] (.int .i64 r) [] := by
  unfold f192 at h
  refine Spec1.body 0 _ _ Tryz.func192 rfl Tryz.ntmps192 rfl rfl ?_
  refine q1rq [] [] ⟨6, [(0, .int .u8 x1)], [], [], 0⟩ trivial ?_
  refine AWp.seq ?_
  obtain ⟨ob0, ob1p, h⟩ := ck2 h
  have ob1 : -9223372036854775808 ≤ (((cs0.getD ((x1).toNat) 0).toNat : Nat) : Int) ∧ (((cs0.getD ((x1).toNat) 0).toNat : Nat) : Int) ≤ 9223372036854775807 := ⟨by omega, ob1p⟩
  refine q1rr [] [] ⟨6, [(2, .i (((cs0.getD ((x1).toNat) 0).toNat : Nat) : Int))], [], [], 0⟩ (an2 ob0 ob1) ?_
  refine thenQ_normal ?_
  have hret := Option.some.inj h
  subst hret
  refine AWp.le (Le.mk (s' := ⟨6, [(2, .i (((cs0.getD ((x1).toNat) 0).toNat : Nat) : Int))], [], [], 0⟩) rfl rfl ⟨.refl _, trivial⟩ trivial) ?_
  refine AWp.ret ?_
  exact bodyQ_ret _ rfl ⟨rfl, rfl⟩ rfl
def f156_L0 (x1 : List UInt8) (K1 : Unit → Option (Int × Int × Int)) : Nat → (Int × Nat) → Option (Int × Int × Int)
  | 0, _ => none
  | k + 1, (i2, n3) =>
    if (decide ((n3 : Int) < (min ((x1.length : Nat) : Int) (10 : Int)))) then (
    chk ((n3 : Int) < ((x1.length : Nat) : Int)) <|
    if (decide ((((x1.getD n3 0).toNat : Nat) : Int) ≥ (128 : Int))) then (
    chk (0 ≤ (bitsI .and .u8 (((x1.getD n3 0).toNat : Nat) : Int) (127 : Int)) ∧ (bitsI .and .u8 (((x1.getD n3 0).toNat : Nat) : Int) (127 : Int)) ≤ 18446744073709551615) <|
    chk (-9223372036854775808 ≤ ((7 : Int) * (n3 : Int)) ∧ ((7 : Int) * (n3 : Int)) ≤ 9223372036854775807) <|
    chk (((n3 : Int) + (1 : Int)) ≤ 9223372036854775807) <|
    (f156_L0 x1 K1 k) ((bitsI .or .u64 i2 (IntKind.wrap .u64 ((bitsI .and .u8 (((x1.getD n3 0).toNat : Nat) : Int) (127 : Int)) * 2 ^ (min (7 * n3) (IntKind.bits .u64))))), (n3 + 1))
    ) else (
    (f192 (((x1.getD n3 0).toNat : Nat) : Int)).bind fun (r4 : Int) =>
    chk (-9223372036854775808 ≤ ((7 : Int) * (n3 : Int)) ∧ ((7 : Int) * (n3 : Int)) ≤ 9223372036854775807) <|
    chk (-9223372036854775808 ≤ (r4 + (((7 * n3) : Nat) : Int)) ∧ (r4 + (((7 * n3) : Nat) : Int)) ≤ 9223372036854775807) <|
    if (decide ((r4 + (((7 * n3) : Nat) : Int)) > (64 : Int))) then (
    some ((0 : Int), (0 : Int), (7 : Int))
    ) else (
    if (((((x1.getD n3 0).toNat : Nat) : Int) == (0 : Int)) && (decide ((n3 : Int) > (0 : Int)))) then (
    some ((0 : Int), (0 : Int), (2 : Int))
    ) else (
    chk ((((x1.getD n3 0).toNat : Nat) : Int) ≤ 18446744073709551615) <|
    chk (-9223372036854775808 ≤ ((7 : Int) * (n3 : Int)) ∧ ((7 : Int) * (n3 : Int)) ≤ 9223372036854775807) <|
    chk ((7 * n3) ≤ IntKind.bits .u64 ∧ 0 ≤ ((((x1.getD n3 0).toNat : Nat) : Int) * 2 ^ (7 * n3)) ∧ ((((x1.getD n3 0).toNat : Nat) : Int) * 2 ^ (7 * n3)) ≤ 18446744073709551615) <|
    chk (((n3 : Int) + (1 : Int)) ≤ 9223372036854775807) <|
    some ((bitsI .or .u64 i2 ((((x1.getD n3 0).toNat : Nat) : Int) * 2 ^ (7 * n3))), (((n3 + 1) : Nat) : Int), (0 : Int))
    )
    )
    )
    ) else (
    K1 ()
    )
theorem f156_L0_e2 (x1 : List UInt8) (K1 : Unit → Option (Int × Int × Int)) (k : Nat) (i2 : Int) (n3 : Nat) : f156_L0 x1 K1 (k + 1) (i2, n3) =
    if (decide ((n3 : Int) < (min ((x1.length : Nat) : Int) (10 : Int)))) then (
    chk ((n3 : Int) < ((x1.length : Nat) : Int)) <|
    if (decide ((((x1.getD n3 0).toNat : Nat) : Int) ≥ (128 : Int))) then (
    chk (0 ≤ (bitsI .and .u8 (((x1.getD n3 0).toNat : Nat) : Int) (127 : Int)) ∧ (bitsI .and .u8 (((x1.getD n3 0).toNat : Nat) : Int) (127 : Int)) ≤ 18446744073709551615) <|
    chk (-9223372036854775808 ≤ ((7 : Int) * (n3 : Int)) ∧ ((7 : Int) * (n3 : Int)) ≤ 9223372036854775807) <|
    chk (((n3 : Int) + (1 : Int)) ≤ 9223372036854775807) <|
    (f156_L0 x1 K1 k) ((bitsI .or .u64 i2 (IntKind.wrap .u64 ((bitsI .and .u8 (((x1.getD n3 0).toNat : Nat) : Int) (127 : Int)) * 2 ^ (min (7 * n3) (IntKind.bits .u64))))), (n3 + 1))
    ) else (
    (f192 (((x1.getD n3 0).toNat : Nat) : Int)).bind fun (r4 : Int) =>
    chk (-9223372036854775808 ≤ ((7 : Int) * (n3 : Int)) ∧ ((7 : Int) * (n3 : Int)) ≤ 9223372036854775807) <|
    chk (-9223372036854775808 ≤ (r4 + (((7 * n3) : Nat) : Int)) ∧ (r4 + (((7 * n3) : Nat) : Int)) ≤ 9223372036854775807) <|
    if (decide ((r4 + (((7 * n3) : Nat) : Int)) > (64 : Int))) then (
    some ((0 : Int), (0 : Int), (7 : Int))
    ) else (
    if (((((x1.getD n3 0).toNat : Nat) : Int) == (0 : Int)) && (decide ((n3 : Int) > (0 : Int)))) then (
    some ((0 : Int), (0 : Int), (2 : Int))
    ) else (
    chk ((((x1.getD n3 0).toNat : Nat) : Int) ≤ 18446744073709551615) <|
    chk (-9223372036854775808 ≤ ((7 : Int) * (n3 : Int)) ∧ ((7 : Int) * (n3 : Int)) ≤ 9223372036854775807) <|
    chk ((7 * n3) ≤ IntKind.bits .u64 ∧ 0 ≤ ((((x1.getD n3 0).toNat : Nat) : Int) * 2 ^ (7 * n3)) ∧ ((((x1.getD n3 0).toNat : Nat) : Int) * 2 ^ (7 * n3)) ≤ 18446744073709551615) <|
    chk (((n3 : Int) + (1 : Int)) ≤ 9223372036854775807) <|
    some ((bitsI .or .u64 i2 ((((x1.getD n3 0).toNat : Nat) : Int) * 2 ^ (7 * n3))), (((n3 + 1) : Nat) : Int), (0 : Int))
    )
    )
    )
    ) else (
    K1 ()
    ) := rfl
abbrev f156z0 : List (Nat × V) := [(2, .int .u64 (0 : Int)), (3, .int .i64 (0 : Int)), (4, .int .i64 (7 : Int))]
def f156 (x1 : List UInt8) : Option (Int × Int × Int) :=
  jn (fun (_ : Unit) =>
  if (decide (((x1.length : Nat) : Int) < (10 : Int))) then (
  some ((0 : Int), (0 : Int), (9 : Int))
  ) else (
  some ((0 : Int), (0 : Int), (7 : Int))
  )
  ) fun (K1 : Unit → Option (Int × Int × Int)) =>
  f156_L0 x1 K1 FUEL ((0 : Int), 0)
set_option maxRecDepth 100000 in
theorem f156_ok  (x1 : List UInt8) (r : Int × Int × Int) (h : f156 x1 = some r)  : Spec1 Tryz.prog 156 [] [] [] [.str x1] (.tup [.int .u64 r.1, .int .i64 r.2.1, .int .i64 r.2.2]) [] := by
  unfold f156 at h
  refine Spec1.body 0 _ _ Tryz.func156 rfl Tryz.ntmps156 rfl rfl ?_
  refine q1rq [25] [] ⟨52, [(0, .str x1)], [], [], 0⟩ trivial ?_
  refine q1rq [25] [] ⟨52, [(0, .str x1), (5, .int .u64 (0 : Int))], [], [], 0⟩ trivial ?_
  obtain ⟨K1, hK1, h⟩ := jn_some h
  refine AWp.join (α := Unit) (fun (x : Unit) => match x with | () => ⟨52, [(0, .str x1)], [], [], 0⟩) (fun x => K1 x = some r) ?_ ?_
  ·
    refine q1rq [25] [] ⟨52, [(0, .str x1), (5, .int .u64 (0 : Int)), (10, .i (min (lZ x1) (10 : Int))), (11, .i (0 : Int))], [], [], 0⟩ trivial ?_
    refine AWp.block ?_
    refine AWp.loopL (α := Nat × (Int × Nat)) (fun x => match x with | (_, i2, n3) => ⟨52, [(0, .str x1), (5, .int .u64 i2), (10, .i (min (lZ x1) (10 : Int))), (11, .i (n3 : Int))], [], [], 0⟩) (fun x => f156_L0 x1 K1 x.1 x.2 = some r) (fun x => x.1) (FUEL, (0 : Int), 0) (Le.mk (s' := ⟨52, [(0, .str x1), (5, .int .u64 (0 : Int)), (10, .i (min (lZ x1) (10 : Int))), (11, .i (0 : Int))], [], [], 0⟩) rfl rfl ⟨.refl _, .refl _, .refl _, .refl _, trivial⟩ trivial) h ?_
    rintro ⟨k0, i2, n3⟩ h
    cases k0 with
    | zero => exact nomatch (show (none : Option (Int × Int × Int)) = some r from h)
    | succ k0 =>
    obtain ⟨C0, hC0⟩ : ∃ C, C = f156_L0 x1 K1 k0 := ⟨_, rfl⟩
    replace h := (f156_L0_e2 ..).symm.trans h
    try rw [← hC0] at h
    refine q1rq [25] [] ⟨52, [(0, .str x1), (5, .int .u64 i2), (10, .i (min (lZ x1) (10 : Int))), (11, .i (n3 : Int)), (12, .bool (decide ((n3 : Int) < (min (lZ x1) (10 : Int)))))], [], [], 0⟩ trivial ?_
    refine AWp.seq ?_
    refine AWp.cond (b := (decide ((n3 : Int) < (min (lZ x1) (10 : Int))))) (by kernel_rfl) (fun hc1 => ?_) (fun hc1 => ?_)
    ·
      replace h := ite_tb hc1 h
      refine AWp.skip ?_
      refine thenQ_normal ?_
      refine AWp.seq ?_
      refine AWp.block ?_
      refine q1rq [25] [] ⟨52, [(0, .str x1), (5, .int .u64 i2), (6, .i (n3 : Int)), (10, .i (min (lZ x1) (10 : Int))), (11, .i (n3 : Int))], [], [], 0⟩ trivial ?_
      refine AWp.seq ?_
      obtain ⟨ob0p, h⟩ := chk_some h
      have ob0 : 0 ≤ (n3 : Int) ∧ (n3 : Int) < ((x1.length : Nat) : Int) := ⟨by omega, ob0p⟩
      refine q1rr [25] [] ⟨52, [(0, .str x1), (5, .int .u64 i2), (6, .i (n3 : Int)), (7, .int .u8 (((x1.getD n3 0).toNat : Nat) : Int)), (10, .i (min (lZ x1) (10 : Int))), (11, .i (n3 : Int))], [], [], 0⟩ (an1 ob0) ?_
      refine thenQ_normal ?_
      refine AWp.seq ?_
      refine q1rq [25] [] ⟨52, [(0, .str x1), (5, .int .u64 i2), (6, .i (n3 : Int)), (7, .int .u8 (((x1.getD n3 0).toNat : Nat) : Int)), (10, .i (min (lZ x1) (10 : Int))), (11, .i (n3 : Int)), (18, .bool (decide ((((x1.getD n3 0).toNat : Nat) : Int) ≥ (128 : Int))))], [], [], 0⟩ trivial ?_
      refine AWp.cond (b := (decide ((((x1.getD n3 0).toNat : Nat) : Int) ≥ (128 : Int)))) (by kernel_rfl) (fun hc2 => ?_) (fun hc2 => ?_)
      ·
        replace h := ite_tb hc2 h
        refine AWp.seq ?_
        obtain ⟨ob1, ob2, h⟩ := ck2 h
        have ob3 : 0 ≤ (((7 * n3) : Nat) : Int) := by omega
        refine q1rr [25] [] ⟨52, [(0, .str x1), (5, .int .u64 (bitsI .or .u64 i2 (IntKind.wrap .u64 ((bitsI .and .u8 (((x1.getD n3 0).toNat : Nat) : Int) (127 : Int)) * 2 ^ (min (7 * n3) (IntKind.bits .u64)))))), (10, .i (min (lZ x1) (10 : Int))), (11, .i (n3 : Int))], [], [], 0⟩ (an3 ob1 ob2 ob3) ?_
        refine thenQ_normal ?_
        refine AWp.exit ?_
        refine thenQ_exit ?_
        refine blockQ_same ?_
        refine thenQ_normal ?_
        obtain ⟨ob4p, h⟩ := chk_some h
        have ob4 : -9223372036854775808 ≤ ((n3 : Int) + (1 : Int)) ∧ ((n3 : Int) + (1 : Int)) ≤ 9223372036854775807 := ⟨by omega, ob4p⟩
        refine q1rr [25] [] ⟨52, [(0, .str x1), (5, .int .u64 (bitsI .or .u64 i2 (IntKind.wrap .u64 ((bitsI .and .u8 (((x1.getD n3 0).toNat : Nat) : Int) (127 : Int)) * 2 ^ (min (7 * n3) (IntKind.bits .u64)))))), (10, .i (min (lZ x1) (10 : Int))), (11, .i (((n3 + 1) : Nat) : Int))], [], [], 0⟩ (an1 ob4) ?_
        rw [hC0] at h
        exact loopQ_normal (_, (bitsI .or .u64 i2 (IntKind.wrap .u64 ((bitsI .and .u8 (((x1.getD n3 0).toNat : Nat) : Int) (127 : Int)) * 2 ^ (min (7 * n3) (IntKind.bits .u64))))), (n3 + 1)) (Le.mk rfl rfl ⟨.refl _, .refl _, .refl _, .refl _, trivial⟩ trivial) h (Nat.lt_succ_self _)
      ·
        replace h := ite_fb hc2 h
        refine AWp.skip ?_
        refine thenQ_normal ?_
        refine AWp.seq ?_
        refine AWp.seq ?_
        obtain ⟨r4, hr4, h⟩ := bind_ok h
        obtain ⟨ob5, ob6, h⟩ := ck2 h
        refine q1rr [25] [(1, ⟨[.int .u8 (((x1.getD n3 0).toNat : Nat) : Int)], [], [], [], .i r4, [], [], []⟩)] ⟨52, [(5, .int .u64 i2), (6, .i (n3 : Int)), (7, .int .u8 (((x1.getD n3 0).toNat : Nat) : Int)), (32, .bool (decide ((r4 + (((7 * n3) : Nat) : Int)) > (64 : Int))))], [], [], 0⟩ (an3 (cpT (f192_ok _ _ hr4)) ob5 ob6) ?_
        refine thenQ_normal ?_
        refine AWp.cond (b := (decide ((r4 + (((7 * n3) : Nat) : Int)) > (64 : Int)))) (by kernel_rfl) (fun hc3 => ?_) (fun hc3 => ?_)
        ·
          replace h := ite_tb hc3 h
          refine q1rq [25] [] ⟨52, (f156z0), [], [], 0⟩ trivial ?_
          have hret := Option.some.inj h
          subst hret
          refine AWp.le (Le.mk (s' := ⟨52, (f156z0), [], [], 0⟩) rfl rfl ⟨.refl _, .refl _, .refl _, trivial⟩ trivial) ?_
          refine AWp.ret ?_
          refine thenQ_ret ?_
          refine blockQ_ret ?_
          refine thenQ_ret ?_
          refine thenQ_ret ?_
          refine blockQ_ret ?_
          refine joinQ_ret ?_
          exact bodyQ_ret _ rfl ⟨rfl, rfl⟩ rfl
        ·
          replace h := ite_fb hc3 h
          refine AWp.skip ?_
          refine thenQ_normal ?_
          refine AWp.seq ?_
          refine AWp.seq ?_
          have ob7 := idA ((((((x1.getD n3 0).toNat : Nat) : Int) == (0 : Int)) == true) = true)
          have ob8 := bqA ((((x1.getD n3 0).toNat : Nat) : Int) == (0 : Int)) true
          refine q1rr [25] [] ⟨52, [(5, .int .u64 i2), (6, .i (n3 : Int)), (7, .int .u8 (((x1.getD n3 0).toNat : Nat) : Int)), (38, .bool (((((x1.getD n3 0).toNat : Nat) : Int) == (0 : Int)) && (decide ((n3 : Int) > (0 : Int)))))], [], [], 0⟩ (an2 (an1 ob7) ob8) ?_
          refine thenQ_normal ?_
          refine AWp.cond (b := (((((x1.getD n3 0).toNat : Nat) : Int) == (0 : Int)) && (decide ((n3 : Int) > (0 : Int))))) (by kernel_rfl) (fun hc4 => ?_) (fun hc4 => ?_)
          ·
            replace h := ite_tb hc4 h
            refine q1rq [25] [] ⟨52, [(2, .int .u64 (0 : Int)), (3, .i (0 : Int)), (4, .i (2 : Int))], [], [], 0⟩ trivial ?_
            have hret := Option.some.inj h
            subst hret
            refine AWp.le (Le.mk (s' := ⟨52, [(2, .int .u64 (0 : Int)), (3, .i (0 : Int)), (4, .i (2 : Int))], [], [], 0⟩) rfl rfl ⟨.refl _, .refl _, .refl _, trivial⟩ trivial) ?_
            refine AWp.ret ?_
            refine thenQ_ret ?_
            refine blockQ_ret ?_
            refine thenQ_ret ?_
            refine thenQ_ret ?_
            refine blockQ_ret ?_
            refine joinQ_ret ?_
            exact bodyQ_ret _ rfl ⟨rfl, rfl⟩ rfl
          ·
            replace h := ite_fb hc4 h
            refine AWp.skip ?_
            refine thenQ_normal ?_
            refine AWp.seq ?_
            obtain ⟨ob9p, h⟩ := chk_some h
            have ob9 : 0 ≤ (((x1.getD n3 0).toNat : Nat) : Int) ∧ (((x1.getD n3 0).toNat : Nat) : Int) ≤ 18446744073709551615 := ⟨by omega, ob9p⟩
            obtain ⟨ob10, ob11p, h⟩ := ck2 h
            have ob11 : 0 ≤ (((7 * n3) : Nat) : Int) ∧ (7 * n3) ≤ IntKind.bits .u64 ∧ 0 ≤ ((((x1.getD n3 0).toNat : Nat) : Int) * 2 ^ (7 * n3)) ∧ ((((x1.getD n3 0).toNat : Nat) : Int) * 2 ^ (7 * n3)) ≤ 18446744073709551615 := ⟨by omega, ob11p.1, ob11p.2.1, ob11p.2.2⟩
            obtain ⟨ob12p, h⟩ := chk_some h
            have ob12 : -9223372036854775808 ≤ ((n3 : Int) + (1 : Int)) ∧ ((n3 : Int) + (1 : Int)) ≤ 9223372036854775807 := ⟨by omega, ob12p⟩
            refine q1rr [25] [] ⟨52, [(2, .int .u64 (bitsI .or .u64 i2 ((((x1.getD n3 0).toNat : Nat) : Int) * 2 ^ (7 * n3)))), (3, .i (((n3 + 1) : Nat) : Int)), (4, .i (0 : Int))], [], [], 0⟩ (an4 ob9 ob10 ob11 ob12) ?_
            refine thenQ_normal ?_
            have hret := Option.some.inj h
            subst hret
            refine AWp.le (Le.mk (s' := ⟨52, [(2, .int .u64 (bitsI .or .u64 i2 ((((x1.getD n3 0).toNat : Nat) : Int) * 2 ^ (7 * n3)))), (3, .i (((n3 + 1) : Nat) : Int)), (4, .i (0 : Int))], [], [], 0⟩) rfl rfl ⟨.refl _, .refl _, .refl _, trivial⟩ trivial) ?_
            refine AWp.ret ?_
            refine blockQ_ret ?_
            refine thenQ_ret ?_
            refine thenQ_ret ?_
            refine blockQ_ret ?_
            refine joinQ_ret ?_
            exact bodyQ_ret _ rfl ⟨rfl, rfl⟩ rfl
    ·
      replace h := ite_fb hc1 h
      refine AWp.exit ?_
      refine thenQ_exit ?_
      refine thenQ_exit ?_
      refine blockQ_same ?_
      exact joinQ_normal () (Le.mk rfl rfl ⟨.refl _, trivial⟩ trivial) h
  ·
    rintro ⟨⟩ h
    replace h := (congrFun hK1 _).symm.trans h
    refine AWp.seq ?_
    refine q1rq [25] [] ⟨52, [(51, .bool (decide ((lZ x1) < (10 : Int))))], [], [], 0⟩ trivial ?_
    refine AWp.cond (b := (decide ((lZ x1) < (10 : Int)))) (by kernel_rfl) (fun hc5 => ?_) (fun hc5 => ?_)
    ·
      replace h := ite_tb hc5 h
      refine q1rq [25] [] ⟨52, [(2, .int .u64 (0 : Int)), (3, .i (0 : Int)), (4, .i (9 : Int))], [], [], 0⟩ trivial ?_
      have hret := Option.some.inj h
      subst hret
      refine AWp.le (Le.mk (s' := ⟨52, [(2, .int .u64 (0 : Int)), (3, .i (0 : Int)), (4, .i (9 : Int))], [], [], 0⟩) rfl rfl ⟨.refl _, .refl _, .refl _, trivial⟩ trivial) ?_
      refine AWp.ret ?_
      refine thenQ_ret ?_
      exact bodyQ_ret _ rfl ⟨rfl, rfl⟩ rfl
    ·
      replace h := ite_fb hc5 h
      refine AWp.skip ?_
      refine thenQ_normal ?_
      refine q1rq [25] [] ⟨52, (f156z0), [], [], 0⟩ trivial ?_
      have hret := Option.some.inj h
      subst hret
      refine AWp.le (Le.mk (s' := ⟨52, (f156z0), [], [], 0⟩) rfl rfl ⟨.refl _, .refl _, .refl _, trivial⟩ trivial) ?_
      refine AWp.ret ?_
      exact bodyQ_ret _ rfl ⟨rfl, rfl⟩ rfl
def f125_L0 (r2 : Int × Int × Int) (K1 : Unit → Option (List (List UInt8) × Int × Int)) : Nat → Unit → Option (List (List UInt8) × Int × Int)
  | 0, _ => none
  | _k + 1, _ =>
    if (decide ((0 : Int) < r2.1)) then (
    
    none
    ) else (
    K1 ()
    )
def f125 (x1 : List UInt8) : Option (List (List UInt8) × Int × Int) :=
  (f156 x1).bind fun (r2 : Int × Int × Int) =>
  if (r2.2.2 != (0 : Int)) then (
  some ([], (0 : Int), r2.2.2)
  ) else (
  jn (fun (_ : Unit) =>
  some ([], r2.2.1, (0 : Int))
  ) fun (K1 : Unit → Option (List (List UInt8) × Int × Int)) =>
  f125_L0 r2 K1 FUEL ()
  )
set_option maxRecDepth 100000 in
theorem f125_ok  (x1 : List UInt8) (r : List (List UInt8) × Int × Int) (h : f125 x1 = some r)  : Spec1 Tryz.prog 125 [] [] [] [.str x1, .fn (.func 126) []] (.tup [vL 1 eS [] r.1, .int .i64 r.2.1, .int .i64 r.2.2]) [] := by
  unfold f125 at h
  refine Spec1.body 0 _ _ Tryz.func125 rfl Tryz.ntmps125 rfl rfl ?_
  refine q1rq [] [] ⟨48, [(0, .str x1), (1, .fn (.func 126) [])], [], [], 0⟩ trivial ?_
  refine AWp.seq ?_
  obtain ⟨r2, hr2, h⟩ := bind_ok h
  refine q1rr [] [(1, ⟨[.str x1], [], [], [], .tup [.int .u64 r2.1, .i r2.2.1, .i r2.2.2], [], [], []⟩)] ⟨48, [(0, .str x1), (1, .fn (.func 126) []), (7, .int .u64 r2.1), (8, .i r2.2.1), (9, .i r2.2.2)], [], [], 0⟩ (an1 (cpT (f156_ok _ _ hr2))) ?_
  refine thenQ_normal ?_
  refine AWp.seq ?_
  refine q1rq [] [] ⟨48, [(0, .str x1), (1, .fn (.func 126) []), (7, .int .u64 r2.1), (8, .i r2.2.1), (9, .i r2.2.2), (21, .bool (r2.2.2 != (0 : Int)))], [], [], 0⟩ trivial ?_
  refine AWp.cond (b := (r2.2.2 != (0 : Int))) (by kernel_rfl) (fun hc1 => ?_) (fun hc1 => ?_)
  ·
    replace h := ite_tb hc1 h
    refine q1rq [] [] ⟨48, [(4, .nils), (5, .i (0 : Int)), (6, .i r2.2.2)], [], [], 0⟩ trivial ?_
    have hret := Option.some.inj h
    subst hret
    refine AWp.le (Le.mk (s' := ⟨48, [(4, q1aS []), (5, .i (0 : Int)), (6, .i r2.2.2)], [], [], 0⟩) rfl rfl ⟨.nilL, .refl _, .refl _, trivial⟩ trivial) ?_
    refine AWp.ret ?_
    refine thenQ_ret ?_
    exact bodyQ_ret _ rfl ⟨rfl, rfl⟩ rfl
  ·
    replace h := ite_fb hc1 h
    refine AWp.skip ?_
    refine thenQ_normal ?_
    refine q1rq [] [] ⟨48, [(0, .str x1), (1, .fn (.func 126) []), (7, .int .u64 r2.1), (8, .i r2.2.1), (10, .nils)], [], [], 0⟩ trivial ?_
    obtain ⟨K1, hK1, h⟩ := jn_some h
    refine AWp.join (α := Unit) (fun (x : Unit) => match x with | () => ⟨48, [(8, .i r2.2.1), (10, .nils)], [], [], 0⟩) (fun x => K1 x = some r) ?_ ?_
    ·
      refine q1rq [] [] ⟨48, [(0, .str x1), (1, .fn (.func 126) []), (8, .i r2.2.1), (10, .nils), (23, .int .u64 r2.1), (24, .int .u64 (0 : Int))], [], [], 0⟩ trivial ?_
      refine AWp.block ?_
      refine AWp.loopL (α := Nat × Unit) (fun x => match x with | (_, ()) => ⟨48, [(0, .str x1), (1, .fn (.func 126) []), (8, .i r2.2.1), (10, .nils), (23, .int .u64 r2.1), (24, .int .u64 (0 : Int))], [], [], 0⟩) (fun x => f125_L0 r2 K1 x.1 x.2 = some r) (fun x => x.1) (FUEL, ()) (Le.mk (s' := ⟨48, [(0, .str x1), (1, .fn (.func 126) []), (8, .i r2.2.1), (10, .nils), (23, .int .u64 r2.1), (24, .int .u64 (0 : Int))], [], [], 0⟩) rfl rfl ⟨.refl _, .refl _, .refl _, .refl _, .refl _, .refl _, trivial⟩ trivial) h ?_
      rintro ⟨k0, ⟨⟩⟩ h
      cases k0 with
      | zero => exact nomatch (show (none : Option (List (List UInt8) × Int × Int)) = some r from h)
      | succ k0 =>
      obtain ⟨C0, hC0⟩ : ∃ C, C = f125_L0 r2 K1 k0 := ⟨_, rfl⟩
      replace h := (f125_L0.eq_2 ..).symm.trans h
      try rw [← hC0] at h
      refine q1rq [] [] ⟨48, [(0, .str x1), (1, .fn (.func 126) []), (8, .i r2.2.1), (10, .nils), (23, .int .u64 r2.1), (24, .int .u64 (0 : Int)), (25, .bool (decide ((0 : Int) < r2.1)))], [], [], 0⟩ trivial ?_
      refine AWp.seq ?_
      refine AWp.cond (b := (decide ((0 : Int) < r2.1))) (by kernel_rfl) (fun hc2 => ?_) (fun hc2 => ?_)
      ·
        replace h := ite_tb hc2 h
        refine AWp.skip ?_
        refine thenQ_normal ?_
        refine AWp.seq ?_
        refine AWp.block ?_
        refine AWp.seq ?_
        exact nomatch (show (none : Option (List (List UInt8) × Int × Int)) = some r from h)
      ·
        replace h := ite_fb hc2 h
        refine AWp.exit ?_
        refine thenQ_exit ?_
        refine thenQ_exit ?_
        refine blockQ_same ?_
        exact joinQ_normal () (Le.mk rfl rfl ⟨.refl _, .refl _, trivial⟩ trivial) h
    ·
      rintro ⟨⟩ h
      replace h := (congrFun hK1 _).symm.trans h
      refine q1rq [] [] ⟨48, [(4, .nils), (5, .i r2.2.1), (6, .i (0 : Int))], [], [], 0⟩ trivial ?_
      have hret := Option.some.inj h
      subst hret
      refine AWp.le (Le.mk (s' := ⟨48, [(4, q1aS []), (5, .i r2.2.1), (6, .i (0 : Int))], [], [], 0⟩) rfl rfl ⟨.nilL, .refl _, .refl _, trivial⟩ trivial) ?_
      refine AWp.ret ?_
      exact bodyQ_ret _ rfl ⟨rfl, rfl⟩ rfl
def f96 (x1 : List UInt8) : Option (List (List UInt8) × Int × Int) :=
  (f125 x1).bind fun (r2 : List (List UInt8) × Int × Int) =>
  some (r2.1, r2.2.1, r2.2.2)
set_option maxRecDepth 100000 in
theorem f96_ok  (x1 : List UInt8) (r : List (List UInt8) × Int × Int) (h : f96 x1 = some r)  : Spec1 Tryz.prog 96 [] [] [] [.str x1] (.tup [vL 1 eS [] r.1, .int .i64 r.2.1, .int .i64 r.2.2]) [] := by
  unfold f96 at h
  refine Spec1.body 0 _ _ Tryz.func96 rfl Tryz.ntmps96 rfl rfl ?_
  refine q1rq [] [] ⟨10, [(0, .str x1)], [], [], 0⟩ trivial ?_
  refine AWp.seq ?_
  obtain ⟨r2, hr2, h⟩ := bind_ok h
  refine q1rr [] [(1, ⟨[.str x1, .fn (.func 126) []], [], [], [], .tup [q1aS r2.1, .i r2.2.1, .i r2.2.2], [], [], []⟩)] ⟨10, [(2, q1aS r2.1), (3, .i r2.2.1), (4, .i r2.2.2)], [], [], 0⟩ (an1 (cpT (f125_ok _ _ hr2))) ?_
  refine thenQ_normal ?_
  have hret := Option.some.inj h
  subst hret
  refine AWp.le (Le.mk (s' := ⟨10, [(2, q1aS r2.1), (3, .i r2.2.1), (4, .i r2.2.2)], [], [], 0⟩) rfl rfl ⟨.refl _, .refl _, .refl _, trivial⟩ trivial) ?_
  refine AWp.ret ?_
  exact bodyQ_ret _ rfl ⟨rfl, rfl⟩ rfl
def f68_L0 (r2 : List (List UInt8) × Int × Int) (K1 : Nat → Option (Int × Int × (List (Int × Int × List UInt8)) × Int)) : Nat → Unit → Option (Int × Int × (List (Int × Int × List UInt8)) × Int)
  | 0, _ => none
  | _k + 1, _ =>
    if (decide (((((r2.1.drop 1)).length : Nat) : Int) ≥ (3 : Int))) then (
    none
    ) else (
    K1 1
    )
abbrev f68z0 : Heap := [(2, .cells 100 [.int .i64 (0 : Int), .int .i64 (0 : Int), .nils]), (7, .cells 100 [.int .i64 (1 : Int), .int .i64 (0 : Int), .nils])]
abbrev f68z1 : List V := [.int .i64 (0 : Int), .int .i64 (0 : Int), .nils]
abbrev f68z2 := ([106, 111, 105, 110] : List UInt8)
abbrev f68z3 (x1 : List UInt8) : List (Nat × V) := [(0, .str x1), (2, .ptr 2 0), (7, .ptr 7 0)]
def f68 (x1 : List UInt8) : Option (Int × Int × (List (Int × Int × List UInt8)) × Int) :=
  (f96 x1).bind fun (r2 : List (List UInt8) × Int × Int) =>
  if ((r2.2.2 != (0 : Int)) || ((((r2.1).length : Nat) : Int) == (0 : Int))) then (
  some ((0 : Int), (0 : Int), [], (2 : Int))
  ) else (
  chk ((1 : Int) ≤ (((r2.1).length : Nat) : Int)) <|
  jn (fun (_n3 : Nat) =>
  
  none
  ) fun (K1 : Nat → Option (Int × Int × (List (Int × Int × List UInt8)) × Int)) =>
  chk ((0 : Int) < (((r2.1).length : Nat) : Int)) <|
  if (((r2.1.getD 0 []) == ([106, 111, 105, 110] : List UInt8)) && (((((r2.1.drop 1)).length : Nat) : Int) == (1 : Int))) then (
  none
  ) else (
  chk ((0 : Int) < (((r2.1).length : Nat) : Int)) <|
  if ((r2.1.getD 0 []) == cs1) then (
  K1 3
  ) else (
  f68_L0 r2 K1 FUEL ()
  )
  )
  )
set_option maxRecDepth 100000 in
theorem f68_ok  (x1 : List UInt8) (r : Int × Int × (List (Int × Int × List UInt8)) × Int) (h : f68 x1 = some r)  : Spec1 Tryz.prog 68 [] [] [] [.str x1] (.tup [.agg [.int .i64 r.1, .int .i64 r.2.1, vL 3 eIIS (default : Int × Int × List UInt8) r.2.2.1], .int .i64 r.2.2.2]) [] := by
  unfold f68 at h
  refine Spec1.bodyD [2] 0 _ _ Tryz.func68 rfl Tryz.ntmps68 rfl rfl ?_
  refine q1rq [] [] ⟨96, [(0, .str x1), (2, .ptr 2 0)], [(2, .cells 100 (f68z1))], [], 0⟩ trivial ?_
  refine AWp.seq ?_
  obtain ⟨r2, hr2, h⟩ := bind_ok h
  refine q1rr [] [(1, ⟨[.str x1], [], [], [], .tup [q1aS r2.1, .i r2.2.1, .i r2.2.2], [], [], []⟩)] ⟨96, [(0, .str x1), (2, .ptr 2 0), (4, q1aS r2.1), (6, .i r2.2.2)], [(2, .cells 100 (f68z1))], [], 0⟩ (an1 (cpT (f96_ok _ _ hr2))) ?_
  refine thenQ_normal ?_
  refine AWp.seq ?_
  refine AWp.seq ?_
  have ob0 := idA (((r2.2.2 != (0 : Int)) == false) = true)
  have ob1 := idA (((r2.2.2 != (0 : Int)) == false) = true)
  have ob2 := bqA (r2.2.2 != (0 : Int)) false
  refine q1rr [] [] ⟨96, [(0, .str x1), (2, .ptr 2 0), (4, q1aS r2.1), (25, .bool ((r2.2.2 != (0 : Int)) || ((lZ r2.1) == (0 : Int))))], [(2, .cells 100 (f68z1))], [], 0⟩ (an3 (an1 ob0) (an1 ob1) ob2) ?_
  refine thenQ_normal ?_
  refine AWp.cond (b := ((r2.2.2 != (0 : Int)) || ((lZ r2.1) == (0 : Int)))) (by kernel_rfl) (fun hc1 => ?_) (fun hc1 => ?_)
  ·
    replace h := ite_tb hc1 h
    refine q1rq [] [] ⟨96, [(2, .ptr 2 0), (3, .i (2 : Int))], [(2, .cells 100 (f68z1))], [], 0⟩ (an1 trivial) ?_
    have hret := Option.some.inj h
    subst hret
    refine AWp.le (Le.mk (s' := ⟨96, [(2, .ptr 2 0), (3, .i (2 : Int))], [(2, .cells 100 [.i (0 : Int), .i (0 : Int), q1aIIS []])], [], 0⟩) rfl rfl ⟨.refl _, .refl _, trivial⟩ ⟨⟨_, rfl, (.cellsL ⟨.refl _, .refl _, .nilL, trivial⟩)⟩, trivial⟩) ?_
    refine AWp.ret ?_
    refine thenQ_ret ?_
    exact bodyQ_ret _ rfl ⟨rfl, rfl⟩ rfl
  ·
    replace h := ite_fb hc1 h
    refine AWp.skip ?_
    refine thenQ_normal ?_
    refine q1rq [] [] ⟨96, [(0, .str x1), (2, .ptr 2 0), (4, q1aS r2.1), (7, .ptr 7 0)], (f68z0), [], 0⟩ (an1 trivial) ?_
    refine AWp.seq ?_
    obtain ⟨ob3p, h⟩ := chk_some h
    have ob3 : 0 ≤ (1 : Int) ∧ (1 : Int) ≤ (((r2.1).length : Nat) : Int) := ⟨by omega, ob3p⟩
    refine q1rr [] [] ⟨96, [(0, .str x1), (2, .ptr 2 0), (4, q1aS r2.1), (7, .ptr 7 0), (8, .arr 1 ((r2.1).length - 1) (fun i j => (encF eS [] r2.1) (i + 1) j))], (f68z0), [], 0⟩ (an1 ob3) ?_
    refine thenQ_normal ?_
    refine AWp.le (Le.mk (s' := ⟨96, [(0, .str x1), (2, .ptr 2 0), (4, q1aS r2.1), (7, .ptr 7 0), (8, q1aS (r2.1.drop 1))], (f68z0), [], 0⟩) rfl rfl ⟨.refl _, .refl _, .refl _, .refl _, VLe.dropL, trivial⟩ ⟨⟨_, rfl, .refl _⟩, ⟨_, rfl, .refl _⟩, trivial⟩) ?_
    obtain ⟨K1, hK1, h⟩ := jn_some h
    refine AWp.join (α := Nat) (fun (n3 : Nat) => ⟨96, (f68z3 x1), [(2, .cells 100 (f68z1)), (7, .cells 100 [.i (n3 : Int), .i (0 : Int), .nils])], [], 0⟩) (fun x => K1 x = some r) ?_ ?_
    ·
      refine AWp.block ?_
      refine AWp.seq ?_
      obtain ⟨ob4p, h⟩ := chk_some h
      have ob4 : 0 ≤ (0 : Int) ∧ (0 : Int) < (((r2.1).length : Nat) : Int) := ⟨by omega, ob4p⟩
      have ob5 := idA ((((r2.1.getD 0 []) == (f68z2)) == true) = true)
      have ob6 := idA ((((r2.1.getD 0 []) == (f68z2)) == true) = true)
      have ob7 := bqA ((r2.1.getD 0 []) == (f68z2)) true
      refine q1rr [] [] ⟨96, [(0, .str x1), (2, .ptr 2 0), (4, q1aS r2.1), (7, .ptr 7 0), (8, q1aS (r2.1.drop 1)), (60, .bool (((r2.1.getD 0 []) == (f68z2)) && (((((r2.1.drop 1)).length : Nat) : Int) == (1 : Int))))], (f68z0), [], 0⟩ (an4 ob4 (an1 ob5) (an1 ob6) ob7) ?_
      refine thenQ_normal ?_
      refine AWp.cond (b := (((r2.1.getD 0 []) == (f68z2)) && (((((r2.1.drop 1)).length : Nat) : Int) == (1 : Int)))) (by kernel_rfl) (fun hc2 => ?_) (fun hc2 => ?_)
      ·
        replace h := ite_tb hc2 h
        refine q1rq [] [] ⟨96, [(0, .str x1), (2, .ptr 2 0), (7, .ptr 7 0), (8, q1aS (r2.1.drop 1))], [(2, .cells 100 (f68z1)), (7, .cells 100 [.i (2 : Int), .i (0 : Int), .nils])], [], 0⟩ (an1 trivial) ?_
        exact nomatch (show (none : Option (Int × Int × (List (Int × Int × List UInt8)) × Int)) = some r from h)
      ·
        replace h := ite_fb hc2 h
        refine AWp.seq ?_
        obtain ⟨ob8p, h⟩ := chk_some h
        have ob8 : 0 ≤ (0 : Int) ∧ (0 : Int) < (((r2.1).length : Nat) : Int) := ⟨by omega, ob8p⟩
        refine q1rr [] [] ⟨96, [(0, .str x1), (2, .ptr 2 0), (7, .ptr 7 0), (8, q1aS (r2.1.drop 1)), (79, .bool ((r2.1.getD 0 []) == cs1))], (f68z0), [], 0⟩ (an1 ob8) ?_
        refine thenQ_normal ?_
        refine AWp.cond (b := ((r2.1.getD 0 []) == cs1)) (by kernel_rfl) (fun hc3 => ?_) (fun hc3 => ?_)
        ·
          replace h := ite_tb hc3 h
          refine q1rr [] [] ⟨96, (f68z3 x1), [(2, .cells 100 (f68z1)), (7, .cells 100 [.i (3 : Int), .i (0 : Int), .nils])], [], 0⟩ (an1 trivial) ?_
          refine blockQ_normal ?_
          exact joinQ_normal (3) (Le.mk rfl rfl ⟨.refl _, .refl _, .refl _, trivial⟩ ⟨⟨_, rfl, .refl _⟩, ⟨_, rfl, .refl _⟩, trivial⟩) h
        ·
          replace h := ite_fb hc3 h
          refine AWp.block ?_
          refine AWp.loopL (α := Nat × Unit) (fun x => match x with | (_, ()) => ⟨96, [(0, .str x1), (2, .ptr 2 0), (7, .ptr 7 0), (8, q1aS (r2.1.drop 1))], (f68z0), [], 0⟩) (fun x => f68_L0 r2 K1 x.1 x.2 = some r) (fun x => x.1) (FUEL, ()) (Le.mk (s' := ⟨96, [(0, .str x1), (2, .ptr 2 0), (7, .ptr 7 0), (8, q1aS (r2.1.drop 1))], (f68z0), [], 0⟩) rfl rfl ⟨.refl _, .refl _, .refl _, .refl _, trivial⟩ ⟨⟨_, rfl, .refl _⟩, ⟨_, rfl, .refl _⟩, trivial⟩) h ?_
          rintro ⟨k0, ⟨⟩⟩ h
          cases k0 with
          | zero => exact nomatch (show (none : Option (Int × Int × (List (Int × Int × List UInt8)) × Int)) = some r from h)
          | succ k0 =>
          obtain ⟨C0, hC0⟩ : ∃ C, C = f68_L0 r2 K1 k0 := ⟨_, rfl⟩
          replace h := (f68_L0.eq_2 ..).symm.trans h
          try rw [← hC0] at h
          refine AWp.seq ?_
          refine q1rq [] [] ⟨96, [(0, .str x1), (2, .ptr 2 0), (7, .ptr 7 0), (8, q1aS (r2.1.drop 1)), (32, .bool (decide (((((r2.1.drop 1)).length : Nat) : Int) ≥ (3 : Int))))], (f68z0), [], 0⟩ trivial ?_
          refine AWp.cond (b := (decide (((((r2.1.drop 1)).length : Nat) : Int) ≥ (3 : Int)))) (by kernel_rfl) (fun hc4 => ?_) (fun hc4 => ?_)
          ·
            replace h := ite_tb hc4 h
            refine AWp.skip ?_
            refine thenQ_normal ?_
            refine AWp.seq ?_
            refine AWp.block ?_
            refine AWp.seq ?_
            exact nomatch (show (none : Option (Int × Int × (List (Int × Int × List UInt8)) × Int)) = some r from h)
          ·
            replace h := ite_fb hc4 h
            refine AWp.exit ?_
            refine thenQ_exit ?_
            refine thenQ_exit ?_
            refine blockQ_same ?_
            refine blockQ_normal ?_
            exact joinQ_normal (1) (Le.mk rfl rfl ⟨.refl _, .refl _, .refl _, trivial⟩ ⟨⟨_, rfl, .refl _⟩, ⟨_, rfl, .refl _⟩, trivial⟩) h
    ·
      rintro n3 h
      replace h := (congrFun hK1 _).symm.trans h
      refine AWp.seq ?_
      refine AWp.seq ?_
      exact nomatch (show (none : Option (Int × Int × (List (Int × Int × List UInt8)) × Int)) = some r from h)
def f122_L0 (x1 : List (Int × Int × List UInt8)) (x2 : Int) (x3 : Int) (x4 : List UInt8) (K1 : Unit → Option Int) : Nat → Nat → Option Int
  | 0, _ => none
  | k + 1, n5 =>
    if (decide ((n5 : Int) < (((x1).length : Nat) : Int))) then (
    chk ((n5 : Int) < (((x1).length : Nat) : Int)) <|
    if ((x2 == (x1.getD n5 (default : Int × Int × List UInt8)).1) && ((x3 == (x1.getD n5 (default : Int × Int × List UInt8)).2.1) && ((x4 == ((x1.getD n5 (default : Int × Int × List UInt8)).2.2)) && true))) then (
    some (n5 : Int)
    ) else (
    chk (((n5 : Int) + (1 : Int)) ≤ 9223372036854775807) <|
    (f122_L0 x1 x2 x3 x4 K1 k) (n5 + 1)
    )
    ) else (
    K1 ()
    )
abbrev f122z0 (x2 : Int) (x3 : Int) (x4 : List UInt8) : Heap := [(3, .cells 88 [.int .i64 x2, .int .i64 x3, .str x4])]
abbrev f122z1 (x1 : List (Int × Int × List UInt8)) (n5 : Nat) := (x1.getD n5 (default : Int × Int × List UInt8))
def f122 (x1 : List (Int × Int × List UInt8)) (x2 : Int) (x3 : Int) (x4 : List UInt8) : Option Int :=
  jn (fun (_ : Unit) =>
  some (-1 : Int)
  ) fun (K1 : Unit → Option Int) =>
  f122_L0 x1 x2 x3 x4 K1 FUEL 0
set_option maxRecDepth 100000 in
theorem f122_ok  (x1 : List (Int × Int × List UInt8)) (x2 : Int) (x3 : Int) (x4 : List UInt8) (r : Int) (h : f122 x1 x2 x3 x4 = some r)  : Spec1 Tryz.prog 122 [] [] [] [vL 3 eIIS (default : Int × Int × List UInt8) x1, .agg [.int .i64 x2, .int .i64 x3, .str x4]] (.int .i64 r) [] := by
  unfold f122 at h
  refine Spec1.body 0 _ _ Tryz.func122 rfl Tryz.ntmps122 rfl rfl ?_
  refine q1rq [] [] ⟨19, [(0, q1aIIS x1), (3, .ptr 3 0)], (f122z0 x2 x3 x4), [], 0⟩ trivial ?_
  obtain ⟨K1, hK1, h⟩ := jn_some h
  refine AWp.join (α := Unit) (fun (x : Unit) => match x with | () => ⟨19, [], [], [], 0⟩) (fun x => K1 x = some r) ?_ ?_
  ·
    refine q1rq [] [] ⟨19, [(0, q1aIIS x1), (3, .ptr 3 0), (7, .i (lZ x1)), (8, .i (0 : Int))], (f122z0 x2 x3 x4), [], 0⟩ trivial ?_
    refine AWp.block ?_
    refine AWp.loopL (α := Nat × Nat) (fun x => match x with | (_, n5) => ⟨19, [(0, q1aIIS x1), (3, .ptr 3 0), (7, .i (lZ x1)), (8, .i (n5 : Int))], (f122z0 x2 x3 x4), [], 0⟩) (fun x => f122_L0 x1 x2 x3 x4 K1 x.1 x.2 = some r) (fun x => x.1) (FUEL, 0) (Le.mk (s' := ⟨19, [(0, q1aIIS x1), (3, .ptr 3 0), (7, .i (lZ x1)), (8, .i (0 : Int))], (f122z0 x2 x3 x4), [], 0⟩) rfl rfl ⟨.refl _, .refl _, .refl _, .refl _, trivial⟩ ⟨⟨_, rfl, .refl _⟩, trivial⟩) h ?_
    rintro ⟨k0, n5⟩ h
    cases k0 with
    | zero => exact nomatch (show (none : Option Int) = some r from h)
    | succ k0 =>
    obtain ⟨C0, hC0⟩ : ∃ C, C = f122_L0 x1 x2 x3 x4 K1 k0 := ⟨_, rfl⟩
    replace h := (f122_L0.eq_2 ..).symm.trans h
    try rw [← hC0] at h
    refine q1rq [] [] ⟨19, [(0, q1aIIS x1), (3, .ptr 3 0), (7, .i (lZ x1)), (8, .i (n5 : Int)), (9, .bool (decide ((n5 : Int) < (lZ x1))))], (f122z0 x2 x3 x4), [], 0⟩ trivial ?_
    refine AWp.seq ?_
    refine AWp.cond (b := (decide ((n5 : Int) < (lZ x1)))) (by kernel_rfl) (fun hc1 => ?_) (fun hc1 => ?_)
    ·
      replace h := ite_tb hc1 h
      refine AWp.skip ?_
      refine thenQ_normal ?_
      refine AWp.seq ?_
      refine AWp.block ?_
      refine q1rq [] [] ⟨19, [(0, q1aIIS x1), (3, .ptr 3 0), (5, .i (n5 : Int)), (7, .i (lZ x1)), (8, .i (n5 : Int))], (f122z0 x2 x3 x4), [], 0⟩ trivial ?_
      refine AWp.seq ?_
      obtain ⟨ob0p, h⟩ := chk_some h
      have ob0 : 0 ≤ (n5 : Int) ∧ (n5 : Int) < (((x1).length : Nat) : Int) := ⟨by omega, ob0p⟩
      refine q1rr [] [] ⟨19, [(0, q1aIIS x1), (3, .ptr 3 0), (5, .i (n5 : Int)), (7, .i (lZ x1)), (8, .i (n5 : Int)), (16, .bool ((x2 == (f122z1 x1 n5).1) && ((x3 == (f122z1 x1 n5).2.1) && ((x4 == ((f122z1 x1 n5).2.2)) && true))))], (f122z0 x2 x3 x4), [], 0⟩ (an1 ob0) ?_
      refine thenQ_normal ?_
      refine AWp.cond (b := ((x2 == (f122z1 x1 n5).1) && ((x3 == (f122z1 x1 n5).2.1) && ((x4 == ((f122z1 x1 n5).2.2)) && true)))) (by kernel_rfl) (fun hc2 => ?_) (fun hc2 => ?_)
      ·
        replace h := ite_tb hc2 h
        refine q1rq [] [] ⟨19, [(4, .i (n5 : Int))], [], [], 0⟩ trivial ?_
        have hret := Option.some.inj h
        subst hret
        refine AWp.le (Le.mk (s' := ⟨19, [(4, .i (n5 : Int))], [], [], 0⟩) rfl rfl ⟨.refl _, trivial⟩ trivial) ?_
        refine AWp.ret ?_
        refine blockQ_ret ?_
        refine thenQ_ret ?_
        refine thenQ_ret ?_
        refine blockQ_ret ?_
        refine joinQ_ret ?_
        exact bodyQ_ret _ rfl ⟨rfl, rfl⟩ rfl
      ·
        replace h := ite_fb hc2 h
        refine AWp.skip ?_
        refine blockQ_normal ?_
        refine thenQ_normal ?_
        obtain ⟨ob1p, h⟩ := chk_some h
        have ob1 : -9223372036854775808 ≤ ((n5 : Int) + (1 : Int)) ∧ ((n5 : Int) + (1 : Int)) ≤ 9223372036854775807 := ⟨by omega, ob1p⟩
        refine q1rr [] [] ⟨19, [(0, q1aIIS x1), (3, .ptr 3 0), (7, .i (lZ x1)), (8, .i (((n5 + 1) : Nat) : Int))], (f122z0 x2 x3 x4), [], 0⟩ (an1 ob1) ?_
        rw [hC0] at h
        exact loopQ_normal (_, (n5 + 1)) (Le.mk rfl rfl ⟨.refl _, .refl _, .refl _, .refl _, trivial⟩ ⟨⟨_, rfl, .refl _⟩, trivial⟩) h (Nat.lt_succ_self _)
    ·
      replace h := ite_fb hc1 h
      refine AWp.exit ?_
      refine thenQ_exit ?_
      refine thenQ_exit ?_
      refine blockQ_same ?_
      exact joinQ_normal () (Le.mk rfl rfl trivial trivial) h
  ·
    rintro ⟨⟩ h
    replace h := (congrFun hK1 _).symm.trans h
    refine q1rq [] [] ⟨19, [(4, .i (-1 : Int))], [], [], 0⟩ trivial ?_
    have hret := Option.some.inj h
    subst hret
    refine AWp.le (Le.mk (s' := ⟨19, [(4, .i (-1 : Int))], [], [], 0⟩) rfl rfl ⟨.refl _, trivial⟩ trivial) ?_
    refine AWp.ret ?_
    exact bodyQ_ret _ rfl ⟨rfl, rfl⟩ rfl
def f89 (x1 : List (Int × Int × List UInt8)) (x2 : Int) (x3 : Int) (x4 : List UInt8) : Option Bool :=
  (f122 x1 x2 x3 x4).bind fun (r5 : Int) =>
  some (decide (r5 ≥ (0 : Int)))
set_option maxRecDepth 100000 in
theorem f89_ok  (x1 : List (Int × Int × List UInt8)) (x2 : Int) (x3 : Int) (x4 : List UInt8) (r : Bool) (h : f89 x1 x2 x3 x4 = some r)  : Spec1 Tryz.prog 89 [] [] [] [vL 3 eIIS (default : Int × Int × List UInt8) x1, .agg [.int .i64 x2, .int .i64 x3, .str x4]] (.bool r) [] := by
  unfold f89 at h
  refine Spec1.body 0 _ _ Tryz.func89 rfl Tryz.ntmps89 rfl rfl ?_
  refine q1rq [] [] ⟨9, [(0, q1aIIS x1), (3, .ptr 3 0)], [(3, .cells 88 [.i x2, .i x3, .str x4])], [], 0⟩ trivial ?_
  refine AWp.seq ?_
  obtain ⟨r5, hr5, h⟩ := bind_ok h
  refine q1rr [] [(2, ⟨[q1aIIS x1, .agg [.i x2, .i x3, .str x4]], [], [], [], .i r5, [], [], []⟩)] ⟨9, [(4, .bool (decide (r5 ≥ (0 : Int))))], [], [], 0⟩ (an1 (cpT (f122_ok _ _ _ _ _ hr5))) ?_
  refine thenQ_normal ?_
  have hret := Option.some.inj h
  subst hret
  refine AWp.le (Le.mk (s' := ⟨9, [(4, .bool (decide (r5 ≥ (0 : Int))))], [], [], 0⟩) rfl rfl ⟨.refl _, trivial⟩ trivial) ?_
  refine AWp.ret ?_
  exact bodyQ_ret _ rfl ⟨rfl, rfl⟩ rfl
def f66_L0 (x3 : Int) (x4 : Int) (x8 : List (Int × List UInt8)) (x9 : List (Int × Bool)) (x10 : List ((Int × Int) × List UInt8)) (x11 : List (Int × Int)) (x12 : List ((Int × Int) × List UInt8)) (x13 : List ((Int × Int × List UInt8) × Bool)) (x14 : List ((Int × Int) × Bool)) (K1 : (List (List UInt8)) → Option (Bool × (List (Int × List UInt8)) × (List (Int × Bool)) × (List ((Int × Int) × List UInt8)) × (List (Int × Int)) × (List ((Int × Int) × List UInt8)) × (List ((Int × Int × List UInt8) × Bool)) × (List ((Int × Int) × Bool)))) : Nat → (Nat × List (List UInt8)) → Option (Bool × (List (Int × List UInt8)) × (List (Int × Bool)) × (List ((Int × Int) × List UInt8)) × (List (Int × Int)) × (List ((Int × Int) × List UInt8)) × (List ((Int × Int × List UInt8) × Bool)) × (List ((Int × Int) × Bool)))
  | 0, _ => none
  | k + 1, (n17, l18) =>
    if (decide ((n17 : Int) < x4)) then (
    if (!(hM x10 (((12 : Int) + x3), (n17 : Int)))) then (
    some (false, x8, x9, x10, x11, x12, x13, x14)
    ) else (
    chk (((l18).length + 1) * 16 ≤ 140737488355328) <|
    chk (((n17 : Int) + (1 : Int)) ≤ 9223372036854775807) <|
    (f66_L0 x3 x4 x8 x9 x10 x11 x12 x13 x14 K1 k) ((n17 + 1), (l18 ++ [(gM x10 [] (((12 : Int) + x3), (n17 : Int)))]))
    )
    ) else (
    K1 l18
    )
abbrev f66z0 : List V := [.own 2001, .own 2002, .own 2003, .own 2004, .own 2005, .own 2006, .own 2007]
abbrev f66z1 (x14 : List ((Int × Int) × Bool)) (x3 : Int) (x5 : Int) (x12 : List ((Int × Int) × List UInt8)) := ((gM x14 false (x3, x5)) || (!(hM x12 (x3, x5))))
abbrev f66z2 (x3 : Int) (x10 : List ((Int × Int) × List UInt8)) (x4 : Int) (n17 : Nat) : List (Nat × V) := [(0, .ptr 2000 0), (3, .ptr 3 0), (6, .int .i64 ((12 : Int) + x3)), (9, .str (gM x10 [] (((12 : Int) + x3), x4))), (13, .own 5013), (85, .int .i64 x4), (86, .int .i64 (n17 : Int))]
abbrev f66z3 (r15 : Int × Int × (List (Int × Int × List UInt8)) × Int) := (r15.2.2.2 != (0 : Int))
abbrev f66z4 (x3 : Int) (x5 : Int) : List V := [.int .i64 x3, .int .i64 x5]
def f66 (_x1 : Int) (_x2 : Int) (x3 : Int) (x4 : Int) (x5 : Int) (_x6 : List UInt8) (_x7 : List UInt8) (x8 : List (Int × List UInt8)) (x9 : List (Int × Bool)) (x10 : List ((Int × Int) × List UInt8)) (x11 : List (Int × Int)) (x12 : List ((Int × Int) × List UInt8)) (x13 : List ((Int × Int × List UInt8) × Bool)) (x14 : List ((Int × Int) × Bool)) : Option (Bool × (List (Int × List UInt8)) × (List (Int × Bool)) × (List ((Int × Int) × List UInt8)) × (List (Int × Int)) × (List ((Int × Int) × List UInt8)) × (List ((Int × Int × List UInt8) × Bool)) × (List ((Int × Int) × Bool))) :=
  chk (-9223372036854775808 ≤ ((12 : Int) + x3) ∧ ((12 : Int) + x3) ≤ 9223372036854775807) <|
  (f68 (gM x10 [] (((12 : Int) + x3), x4))).bind fun (r15 : Int × Int × (List (Int × Int × List UInt8)) × Int) =>
  optc (((((gM x14 false (x3, x5)) || (!(hM x12 (x3, x5)))) || (!(hM x10 (((12 : Int) + x3), x4)))) || (r15.2.2.2 != (0 : Int))) == false) (f89 r15.2.2.1 x3 x5 (gM x12 [] (x3, x5))) fun (r16 : Bool) =>
  if (((((gM x14 false (x3, x5)) || (!(hM x12 (x3, x5)))) || (!(hM x10 (((12 : Int) + x3), x4)))) || (r15.2.2.2 != (0 : Int))) || (!r16)) then (
  some (false, x8, x9, x10, x11, x12, x13, x14)
  ) else (
  jn (fun (_l19 : List (List UInt8)) =>
  none
  ) fun (K1 : (List (List UInt8)) → Option (Bool × (List (Int × List UInt8)) × (List (Int × Bool)) × (List ((Int × Int) × List UInt8)) × (List (Int × Int)) × (List ((Int × Int) × List UInt8)) × (List ((Int × Int × List UInt8) × Bool)) × (List ((Int × Int) × Bool)))) =>
  f66_L0 x3 x4 x8 x9 x10 x11 x12 x13 x14 K1 FUEL (0, [])
  )
set_option maxRecDepth 100000 in
theorem f66_ok  (x1 : Int) (x2 : Int) (x3 : Int) (x4 : Int) (x5 : Int) (x6 : List UInt8) (x7 : List UInt8) (x8 : List (Int × List UInt8)) (x9 : List (Int × Bool)) (x10 : List ((Int × Int) × List UInt8)) (x11 : List (Int × Int)) (x12 : List ((Int × Int) × List UInt8)) (x13 : List ((Int × Int × List UInt8) × Bool)) (x14 : List ((Int × Int) × Bool)) (r : Bool × (List (Int × List UInt8)) × (List (Int × Bool)) × (List ((Int × Int) × List UInt8)) × (List (Int × Int)) × (List ((Int × Int) × List UInt8)) × (List ((Int × Int × List UInt8) × Bool)) × (List ((Int × Int) × Bool))) (h : f66 x1 x2 x3 x4 x5 x6 x7 x8 x9 x10 x11 x12 x13 x14 = some r)  : Spec1 Tryz.prog 66 [] [2000] [(2000, .cells 115 [.own 2001, .own 2002, .own 2003, .own 2004, .own 2005, .own 2006, .own 2007]), (2001, bP (V.int .i64) 0 m108 [] x8), (2002, bP (V.int .i64) 0 m109 false x9), (2003, bP mk110E (default : Int × Int) m110 [] x10), (2004, bP (V.int .i64) 0 m111 0 x11), (2005, bP mk110E (default : Int × Int) m110 [] x12), (2006, bP mk112E (default : Int × Int × List UInt8) m112 false x13), (2007, bP mk113E (default : Int × Int) m113 false x14)] [.ptr 2000 0, .agg [.int .i64 x1, .int .i64 x2, .int .i64 x3, .int .i64 x4, .int .i64 x5, .str x6, .str x7, .opq, .opq, .opq, .opq, .opq, .opq, .opq, .opq, .opq, .opq, .opq, .opq, .opq, .opq, .opq, .opq, .opq, .opq, .opq, .opq, .opq]] (.bool r.1) [(2000, .cells 115 [.own 2001, .own 2002, .own 2003, .own 2004, .own 2005, .own 2006, .own 2007]), (2001, bP (V.int .i64) 0 m108 [] r.2.1), (2002, bP (V.int .i64) 0 m109 false r.2.2.1), (2003, bP mk110E (default : Int × Int) m110 [] r.2.2.2.1), (2004, bP (V.int .i64) 0 m111 0 r.2.2.2.2.1), (2005, bP mk110E (default : Int × Int) m110 [] r.2.2.2.2.2.1), (2006, bP mk112E (default : Int × Int × List UInt8) m112 false r.2.2.2.2.2.2.1), (2007, bP mk113E (default : Int × Int) m113 false r.2.2.2.2.2.2.2)] := by
  unfold f66 at h
  refine Spec1.body 0 _ _ Tryz.func66 rfl Tryz.ntmps66 rfl rfl ?_
  refine q1rq [] [] ⟨129, [(0, .ptr 2000 0), (3, .ptr 3 0)], [(3, .cells 51 [.i x1, .i x2, .i x3, .i x4, .i x5, .str x6, .str x7, .opq, .opq, .opq, .opq, .opq, .opq, .opq, .opq, .opq, .opq, .opq, .opq, .opq, .opq, .opq, .opq, .opq, .opq, .opq, .opq, .opq]), (2000, .cells 115 (f66z0)), (2001, bP (V.int .i64) 0 m108 [] x8), (2002, bP (V.int .i64) 0 m109 false x9), (2003, bP mk110E q1dII m110 [] x10), (2004, bP (V.int .i64) 0 m111 0 x11), (2005, bP mk110E q1dII m110 [] x12), (2006, bP mk112E q1dIIS m112 false x13), (2007, bP mk113E q1dII m113 false x14)], [2000], 0⟩ trivial ?_
  refine AWp.seq ?_
  obtain ⟨ob0, h⟩ := chk_some h
  refine q1rr [] [] ⟨129, [(0, .ptr 2000 0), (3, .ptr 3 0), (5, .ptr 5 0), (6, .i ((12 : Int) + x3))], [(3, .cells 51 [.i x1, .i x2, .i x3, .i x4, .i x5, .str x6, .str x7, .opq, .opq, .opq, .opq, .opq, .opq, .opq, .opq, .opq, .opq, .opq, .opq, .opq, .opq, .opq, .opq, .opq, .opq, .opq, .opq, .opq]), (5, .cells 145 (f66z4 x3 x5)), (2000, .cells 115 (f66z0)), (2001, bP (V.int .i64) 0 m108 [] x8), (2002, bP (V.int .i64) 0 m109 false x9), (2003, bP mk110E q1dII m110 [] x10), (2004, bP (V.int .i64) 0 m111 0 x11), (2005, bP mk110E q1dII m110 [] x12), (2006, bP mk112E q1dIIS m112 false x13), (2007, bP mk113E q1dII m113 false x14)], [2000], 0⟩ (an2 ob0 trivial) ?_
  refine thenQ_normal ?_
  refine q1rq [] [(5, ⟨[.own 2005, .agg (f66z4 x3 x5)], [2005], [2005], [(2005, bP mk110E q1dII m110 [] x12)], .tup [.str (gM x12 [] (x3, x5)), .bool (hM x12 (x3, x5))], [], [], []⟩)] ⟨129, [(0, .ptr 2000 0), (3, .ptr 3 0), (5, .ptr 5 0), (6, .i ((12 : Int) + x3)), (7, .str (gM x12 [] (x3, x5))), (8, .bool (hM x12 (x3, x5)))], [(3, .cells 51 [.i x1, .i x2, .i x3, .i x4, .i x5, .str x6, .str x7, .opq, .opq, .opq, .opq, .opq, .opq, .opq, .opq, .opq, .opq, .opq, .opq, .opq, .opq, .opq, .opq, .opq, .opq, .opq, .opq, .opq]), (5, .cells 145 (f66z4 x3 x5)), (2000, .cells 115 (f66z0)), (2001, bP (V.int .i64) 0 m108 [] x8), (2002, bP (V.int .i64) 0 m109 false x9), (2003, bP mk110E q1dII m110 [] x10), (2004, bP (V.int .i64) 0 m111 0 x11), (2005, bP mk110E q1dII m110 [] x12), (2006, bP mk112E q1dIIS m112 false x13), (2007, bP mk113E q1dII m113 false x14)], [2000], 0⟩ (an1 (And.intro (lookP_spec (P := Tryz.prog) Tryz.underlying110 mk110E kE110 q1dII m110 [] [] (by kernel_rfl) (.tmp 32) (.tmp 33) 118 2005 x12 (x3, x5)) (VLes.same [.own 2005, .agg (f66z4 x3 x5)]))) ?_
  refine q1rq [] [(8, ⟨[.own 2003, .agg [.i ((12 : Int) + x3), .i x4]], [2003], [2003], [(2003, bP mk110E q1dII m110 [] x10)], .tup [.str (gM x10 [] (((12 : Int) + x3), x4)), .bool (hM x10 (((12 : Int) + x3), x4))], [], [], []⟩)] ⟨129, [(0, .ptr 2000 0), (3, .ptr 3 0), (5, .ptr 5 0), (6, .i ((12 : Int) + x3)), (7, .str (gM x12 [] (x3, x5))), (8, .bool (hM x12 (x3, x5))), (9, .str (gM x10 [] (((12 : Int) + x3), x4))), (10, .bool (hM x10 (((12 : Int) + x3), x4)))], [(3, .cells 51 [.i x1, .i x2, .i x3, .i x4, .i x5, .str x6, .str x7, .opq, .opq, .opq, .opq, .opq, .opq, .opq, .opq, .opq, .opq, .opq, .opq, .opq, .opq, .opq, .opq, .opq, .opq, .opq, .opq, .opq]), (5, .cells 145 (f66z4 x3 x5)), (2000, .cells 115 (f66z0)), (2001, bP (V.int .i64) 0 m108 [] x8), (2002, bP (V.int .i64) 0 m109 false x9), (2003, bP mk110E q1dII m110 [] x10), (2004, bP (V.int .i64) 0 m111 0 x11), (2005, bP mk110E q1dII m110 [] x12), (2006, bP mk112E q1dIIS m112 false x13), (2007, bP mk113E q1dII m113 false x14)], [2000], 0⟩ (an1 (And.intro (lookP_spec (P := Tryz.prog) Tryz.underlying110 mk110E kE110 q1dII m110 [] [] (by kernel_rfl) (.tmp 41) (.tmp 45) 118 2003 x10 (((12 : Int) + x3), x4)) (VLes.same [.own 2003, .agg [.i ((12 : Int) + x3), .i x4]]))) ?_
  refine AWp.seq ?_
  obtain ⟨r15, hr15, h⟩ := bind_ok h
  refine q1rr [] [(1, ⟨[.str (gM x10 [] (((12 : Int) + x3), x4))], [], [], [], .tup [.agg [.i r15.1, .i r15.2.1, q1aIIS r15.2.2.1], .i r15.2.2.2], [], [], []⟩)] ⟨129, [(0, .ptr 2000 0), (3, .ptr 3 0), (5, .ptr 5 0), (6, .i ((12 : Int) + x3)), (7, .str (gM x12 [] (x3, x5))), (8, .bool (hM x12 (x3, x5))), (9, .str (gM x10 [] (((12 : Int) + x3), x4))), (10, .bool (hM x10 (((12 : Int) + x3), x4))), (11, .ptr 11 0), (12, .i r15.2.2.2)], [(3, .cells 51 [.i x1, .i x2, .i x3, .i x4, .i x5, .str x6, .str x7, .opq, .opq, .opq, .opq, .opq, .opq, .opq, .opq, .opq, .opq, .opq, .opq, .opq, .opq, .opq, .opq, .opq, .opq, .opq, .opq, .opq]), (5, .cells 145 (f66z4 x3 x5)), (11, .cells 100 [.i r15.1, .i r15.2.1, q1aIIS r15.2.2.1]), (2000, .cells 115 (f66z0)), (2001, bP (V.int .i64) 0 m108 [] x8), (2002, bP (V.int .i64) 0 m109 false x9), (2003, bP mk110E q1dII m110 [] x10), (2004, bP (V.int .i64) 0 m111 0 x11), (2005, bP mk110E q1dII m110 [] x12), (2006, bP mk112E q1dIIS m112 false x13), (2007, bP mk113E q1dII m113 false x14)], [2000], 0⟩ (an2 (cpT (f68_ok _ _ hr15)) trivial) ?_
  refine thenQ_normal ?_
  refine AWp.seq ?_
  refine AWp.seq ?_
  obtain ⟨r16, hr16, h⟩ := optc_some h
  have ob1 := idA (((gM x14 false (x3, x5)) == false) = true)
  have ob2 := bqA (gM x14 false (x3, x5)) false
  have ob3 := idA (((f66z1 x14 x3 x5 x12) == false) = true)
  have ob4 := bqA (f66z1 x14 x3 x5 x12) false
  have ob5 := idA ((((f66z1 x14 x3 x5 x12) || (!(hM x10 (((12 : Int) + x3), x4)))) == false) = true)
  have ob6 := bqA ((f66z1 x14 x3 x5 x12) || (!(hM x10 (((12 : Int) + x3), x4)))) false
  have ob7 := idA (((((f66z1 x14 x3 x5 x12) || (!(hM x10 (((12 : Int) + x3), x4)))) || (f66z3 r15)) == false) = true)
  have ob8 := idA (((((f66z1 x14 x3 x5 x12) || (!(hM x10 (((12 : Int) + x3), x4)))) || (f66z3 r15)) == false) = true)
  have ob9 := idA (((((f66z1 x14 x3 x5 x12) || (!(hM x10 (((12 : Int) + x3), x4)))) || (f66z3 r15)) == false) = true)
  have ob10 := idA (((((f66z1 x14 x3 x5 x12) || (!(hM x10 (((12 : Int) + x3), x4)))) || (f66z3 r15)) == false) = true)
  have ob11 := idA (((((f66z1 x14 x3 x5 x12) || (!(hM x10 (((12 : Int) + x3), x4)))) || (f66z3 r15)) == false) = true)
  have ob12 := idA (((((f66z1 x14 x3 x5 x12) || (!(hM x10 (((12 : Int) + x3), x4)))) || (f66z3 r15)) == false) = true)
  have ob13 := idA (((((f66z1 x14 x3 x5 x12) || (!(hM x10 (((12 : Int) + x3), x4)))) || (f66z3 r15)) == false) = true)
  have ob14 := idA (((((f66z1 x14 x3 x5 x12) || (!(hM x10 (((12 : Int) + x3), x4)))) || (f66z3 r15)) == false) = true)
  have ob15 := idA (((((f66z1 x14 x3 x5 x12) || (!(hM x10 (((12 : Int) + x3), x4)))) || (f66z3 r15)) == false) = true)
  have ob16 := bqA (((f66z1 x14 x3 x5 x12) || (!(hM x10 (((12 : Int) + x3), x4)))) || (f66z3 r15)) false
  refine q1rr [] [(5, ⟨[.own 2007, .agg (f66z4 x3 x5)], [2007], [2007], [(2007, bP mk113E q1dII m113 false x14)], .bool (gM x14 false (x3, x5)), [], [], []⟩), (27, ⟨[q1aIIS r15.2.2.1, .agg [.i x3, .i x5, .str (gM x12 [] (x3, x5))]], [], [], [], .bool r16, [], [], []⟩)] ⟨129, [(0, .ptr 2000 0), (3, .ptr 3 0), (6, .i ((12 : Int) + x3)), (9, .str (gM x10 [] (((12 : Int) + x3), x4))), (83, .bool ((((f66z1 x14 x3 x5 x12) || (!(hM x10 (((12 : Int) + x3), x4)))) || (f66z3 r15)) || (!r16)))], [(3, .cells 51 [.i x1, .i x2, .i x3, .i x4, .i x5, .str x6, .str x7, .opq, .opq, .opq, .opq, .opq, .opq, .opq, .opq, .opq, .opq, .opq, .opq, .opq, .opq, .opq, .opq, .opq, .opq, .opq, .opq, .opq]), (2000, .cells 115 (f66z0)), (2001, bP (V.int .i64) 0 m108 [] x8), (2002, bP (V.int .i64) 0 m109 false x9), (2003, bP mk110E q1dII m110 [] x10), (2004, bP (V.int .i64) 0 m111 0 x11), (2005, bP mk110E q1dII m110 [] x12), (2006, bP mk112E q1dIIS m112 false x13), (2007, bP mk113E q1dII m113 false x14)], [2000], 0⟩ (ac6 (And.intro (lookP1_spec (P := Tryz.prog) Tryz.underlying113 mk113E kE113 q1dII m113 false false (by kernel_rfl) (.tmp 57) (.tmp 58) 4 2007 x14 (x3, x5)) (VLes.same [.own 2007, .agg (f66z4 x3 x5)])) (an1 ob1) ob2 (an1 ob3) ob4 (an1 ob5) (ac6 ob6 (an1 ob7) (an1 ob8) (an1 ob9) (an3 ob10 ob11 ob12) (And.intro (cpC fun hc => (f89_ok _ _ _ _ _ (hr16 hc))) (an2 ob13 ob14)) (an2 (an1 ob15) ob16))) ?_
  refine thenQ_normal ?_
  refine AWp.cond (b := ((((f66z1 x14 x3 x5 x12) || (!(hM x10 (((12 : Int) + x3), x4)))) || (f66z3 r15)) || (!r16))) (by kernel_rfl) (fun hc1 => ?_) (fun hc1 => ?_)
  ·
    replace h := ite_tb hc1 h
    refine q1rq [] [] ⟨129, [(4, .bool false)], [(2000, .cells 115 (f66z0)), (2001, bP (V.int .i64) 0 m108 [] x8), (2002, bP (V.int .i64) 0 m109 false x9), (2003, bP mk110E q1dII m110 [] x10), (2004, bP (V.int .i64) 0 m111 0 x11), (2005, bP mk110E q1dII m110 [] x12), (2006, bP mk112E q1dIIS m112 false x13), (2007, bP mk113E q1dII m113 false x14)], [2000], 0⟩ trivial ?_
    have hret := Option.some.inj h
    subst hret
    refine AWp.le (Le.mk (s' := ⟨129, [(4, .bool false)], [(2000, .cells 115 (f66z0)), (2001, bP (V.int .i64) 0 m108 [] x8), (2002, bP (V.int .i64) 0 m109 false x9), (2003, bP mk110E q1dII m110 [] x10), (2004, bP (V.int .i64) 0 m111 0 x11), (2005, bP mk110E q1dII m110 [] x12), (2006, bP mk112E q1dIIS m112 false x13), (2007, bP mk113E q1dII m113 false x14)], [2000], 0⟩) rfl rfl ⟨.refl _, trivial⟩ ⟨⟨_, rfl, .refl _⟩, ⟨_, rfl, .refl _⟩, ⟨_, rfl, .refl _⟩, ⟨_, rfl, .refl _⟩, ⟨_, rfl, .refl _⟩, ⟨_, rfl, .refl _⟩, ⟨_, rfl, .refl _⟩, ⟨_, rfl, .refl _⟩, trivial⟩) ?_
    refine AWp.ret ?_
    refine thenQ_ret ?_
    exact bodyQ_ret _ rfl ⟨rfl, rfl⟩ rfl
  ·
    replace h := ite_fb hc1 h
    refine AWp.skip ?_
    refine thenQ_normal ?_
    refine q1rq [] [] ⟨129, [(0, .ptr 2000 0), (3, .ptr 3 0), (6, .i ((12 : Int) + x3)), (9, .str (gM x10 [] (((12 : Int) + x3), x4))), (13, .nils)], [(3, .cells 51 [.i x1, .i x2, .i x3, .i x4, .i x5, .str x6, .str x7, .opq, .opq, .opq, .opq, .opq, .opq, .opq, .opq, .opq, .opq, .opq, .opq, .opq, .opq, .opq, .opq, .opq, .opq, .opq, .opq, .opq]), (2000, .cells 115 (f66z0)), (2001, bP (V.int .i64) 0 m108 [] x8), (2002, bP (V.int .i64) 0 m109 false x9), (2003, bP mk110E q1dII m110 [] x10), (2004, bP (V.int .i64) 0 m111 0 x11), (2005, bP mk110E q1dII m110 [] x12), (2006, bP mk112E q1dIIS m112 false x13), (2007, bP mk113E q1dII m113 false x14)], [2000], 0⟩ trivial ?_
    obtain ⟨K1, hK1, h⟩ := jn_some h
    refine AWp.join (α := List (List UInt8)) (fun (l19 : List (List UInt8)) => ⟨129, [(3, .ptr 3 0), (9, .str (gM x10 [] (((12 : Int) + x3), x4))), (13, .own 5013)], [(3, .cells 51 [.i x1, .i x2, .i x3, .i x4, .i x5, .str x6, .str x7, .opq, .opq, .opq, .opq, .opq, .opq, .opq, .opq, .opq, .opq, .opq, .opq, .opq, .opq, .opq, .opq, .opq, .opq, .opq, .opq, .opq]), (2000, .cells 115 (f66z0)), (2001, bP (V.int .i64) 0 m108 [] x8), (2002, bP (V.int .i64) 0 m109 false x9), (2003, bP mk110E q1dII m110 [] x10), (2004, bP (V.int .i64) 0 m111 0 x11), (2005, bP mk110E q1dII m110 [] x12), (2006, bP mk112E q1dIIS m112 false x13), (2007, bP mk113E q1dII m113 false x14), (5013, q1bS_9 l19)], [2000], 0⟩) (fun x => K1 x = some r) ?_ ?_
    ·
      refine q1rq [] [] ⟨129, [(0, .ptr 2000 0), (3, .ptr 3 0), (6, .i ((12 : Int) + x3)), (9, .str (gM x10 [] (((12 : Int) + x3), x4))), (13, .nils), (85, .i x4), (86, .i (0 : Int))], [(3, .cells 51 [.i x1, .i x2, .i x3, .i x4, .i x5, .str x6, .str x7, .opq, .opq, .opq, .opq, .opq, .opq, .opq, .opq, .opq, .opq, .opq, .opq, .opq, .opq, .opq, .opq, .opq, .opq, .opq, .opq, .opq]), (2000, .cells 115 (f66z0)), (2001, bP (V.int .i64) 0 m108 [] x8), (2002, bP (V.int .i64) 0 m109 false x9), (2003, bP mk110E q1dII m110 [] x10), (2004, bP (V.int .i64) 0 m111 0 x11), (2005, bP mk110E q1dII m110 [] x12), (2006, bP mk112E q1dIIS m112 false x13), (2007, bP mk113E q1dII m113 false x14)], [2000], 0⟩ trivial ?_
      refine AWp.block ?_
      refine AWp.loopL (α := Nat × (Nat × List (List UInt8))) (fun x => match x with | (_, n17, l18) => ⟨129, (f66z2 x3 x10 x4 n17), [(3, .cells 51 [.i x1, .i x2, .i x3, .i x4, .i x5, .str x6, .str x7, .opq, .opq, .opq, .opq, .opq, .opq, .opq, .opq, .opq, .opq, .opq, .opq, .opq, .opq, .opq, .opq, .opq, .opq, .opq, .opq, .opq]), (2000, .cells 115 (f66z0)), (2001, bP (V.int .i64) 0 m108 [] x8), (2002, bP (V.int .i64) 0 m109 false x9), (2003, bP mk110E q1dII m110 [] x10), (2004, bP (V.int .i64) 0 m111 0 x11), (2005, bP mk110E q1dII m110 [] x12), (2006, bP mk112E q1dIIS m112 false x13), (2007, bP mk113E q1dII m113 false x14), (5013, q1bS_9 l18)], [2000], 0⟩) (fun x => f66_L0 x3 x4 x8 x9 x10 x11 x12 x13 x14 K1 x.1 x.2 = some r) (fun x => x.1) (FUEL, 0, []) (Le.trans (Le.trans (Le.nilOwn 13 5013 9 1 (encF eS [] []) rfl rfl (Nat.le_of_ble_eq_true rfl)) (Le.mk (s' := ⟨129, [(0, .ptr 2000 0), (3, .ptr 3 0), (6, .i ((12 : Int) + x3)), (9, .str (gM x10 [] (((12 : Int) + x3), x4))), (13, .own 5013), (85, .i x4), (86, .i (0 : Int))], [(3, .cells 51 [.i x1, .i x2, .i x3, .i x4, .i x5, .str x6, .str x7, .opq, .opq, .opq, .opq, .opq, .opq, .opq, .opq, .opq, .opq, .opq, .opq, .opq, .opq, .opq, .opq, .opq, .opq, .opq, .opq, .opq]), (2000, .cells 115 (f66z0)), (2001, bP (V.int .i64) 0 m108 [] x8), (2002, bP (V.int .i64) 0 m109 false x9), (2003, bP mk110E q1dII m110 [] x10), (2004, bP (V.int .i64) 0 m111 0 x11), (2005, bP mk110E q1dII m110 [] x12), (2006, bP mk112E q1dIIS m112 false x13), (2007, bP mk113E q1dII m113 false x14), (5013, q1bS_9 [])], [2000], 0⟩) rfl rfl ⟨.refl _, .refl _, .refl _, .refl _, .refl _, .refl _, .refl _, trivial⟩ ⟨⟨_, rfl, .refl _⟩, ⟨_, rfl, .refl _⟩, ⟨_, rfl, .refl _⟩, ⟨_, rfl, .refl _⟩, ⟨_, rfl, .refl _⟩, ⟨_, rfl, .refl _⟩, ⟨_, rfl, .refl _⟩, ⟨_, rfl, .refl _⟩, ⟨_, rfl, .refl _⟩, ⟨_, rfl, .refl _⟩, trivial⟩)) (Le.mk (s' := ⟨129, [(0, .ptr 2000 0), (3, .ptr 3 0), (6, .i ((12 : Int) + x3)), (9, .str (gM x10 [] (((12 : Int) + x3), x4))), (13, .own 5013), (85, .i x4), (86, .i (0 : Int))], [(3, .cells 51 [.i x1, .i x2, .i x3, .i x4, .i x5, .str x6, .str x7, .opq, .opq, .opq, .opq, .opq, .opq, .opq, .opq, .opq, .opq, .opq, .opq, .opq, .opq, .opq, .opq, .opq, .opq, .opq, .opq, .opq]), (2000, .cells 115 (f66z0)), (2001, bP (V.int .i64) 0 m108 [] x8), (2002, bP (V.int .i64) 0 m109 false x9), (2003, bP mk110E q1dII m110 [] x10), (2004, bP (V.int .i64) 0 m111 0 x11), (2005, bP mk110E q1dII m110 [] x12), (2006, bP mk112E q1dIIS m112 false x13), (2007, bP mk113E q1dII m113 false x14), (5013, q1bS_9 [])], [2000], 0⟩) rfl rfl ⟨.refl _, .refl _, .refl _, .refl _, .refl _, .refl _, .refl _, trivial⟩ ⟨⟨_, rfl, .refl _⟩, ⟨_, rfl, .refl _⟩, ⟨_, rfl, .refl _⟩, ⟨_, rfl, .refl _⟩, ⟨_, rfl, .refl _⟩, ⟨_, rfl, .refl _⟩, ⟨_, rfl, .refl _⟩, ⟨_, rfl, .refl _⟩, ⟨_, rfl, .refl _⟩, ⟨_, rfl, .refl _⟩, trivial⟩)) h ?_
      rintro ⟨k0, n17, l18⟩ h
      cases k0 with
      | zero => exact nomatch (show (none : Option (Bool × (List (Int × List UInt8)) × (List (Int × Bool)) × (List ((Int × Int) × List UInt8)) × (List (Int × Int)) × (List ((Int × Int) × List UInt8)) × (List ((Int × Int × List UInt8) × Bool)) × (List ((Int × Int) × Bool)))) = some r from h)
      | succ k0 =>
      obtain ⟨C0, hC0⟩ : ∃ C, C = f66_L0 x3 x4 x8 x9 x10 x11 x12 x13 x14 K1 k0 := ⟨_, rfl⟩
      replace h := (f66_L0.eq_2 ..).symm.trans h
      try rw [← hC0] at h
      refine q1rq [] [] ⟨129, [(0, .ptr 2000 0), (3, .ptr 3 0), (6, .i ((12 : Int) + x3)), (9, .str (gM x10 [] (((12 : Int) + x3), x4))), (13, .own 5013), (85, .i x4), (86, .i (n17 : Int)), (87, .bool (decide ((n17 : Int) < x4)))], [(3, .cells 51 [.i x1, .i x2, .i x3, .i x4, .i x5, .str x6, .str x7, .opq, .opq, .opq, .opq, .opq, .opq, .opq, .opq, .opq, .opq, .opq, .opq, .opq, .opq, .opq, .opq, .opq, .opq, .opq, .opq, .opq]), (2000, .cells 115 (f66z0)), (2001, bP (V.int .i64) 0 m108 [] x8), (2002, bP (V.int .i64) 0 m109 false x9), (2003, bP mk110E q1dII m110 [] x10), (2004, bP (V.int .i64) 0 m111 0 x11), (2005, bP mk110E q1dII m110 [] x12), (2006, bP mk112E q1dIIS m112 false x13), (2007, bP mk113E q1dII m113 false x14), (5013, q1bS_9 l18)], [2000], 0⟩ trivial ?_
      refine AWp.seq ?_
      refine AWp.cond (b := (decide ((n17 : Int) < x4))) (by kernel_rfl) (fun hc2 => ?_) (fun hc2 => ?_)
      ·
        replace h := ite_tb hc2 h
        refine AWp.skip ?_
        refine thenQ_normal ?_
        refine AWp.seq ?_
        refine AWp.block ?_
        refine q1rq [] [] ⟨129, [(0, .ptr 2000 0), (3, .ptr 3 0), (6, .i ((12 : Int) + x3)), (9, .str (gM x10 [] (((12 : Int) + x3), x4))), (13, .own 5013), (14, .i (n17 : Int)), (85, .i x4), (86, .i (n17 : Int))], [(3, .cells 51 [.i x1, .i x2, .i x3, .i x4, .i x5, .str x6, .str x7, .opq, .opq, .opq, .opq, .opq, .opq, .opq, .opq, .opq, .opq, .opq, .opq, .opq, .opq, .opq, .opq, .opq, .opq, .opq, .opq, .opq]), (2000, .cells 115 (f66z0)), (2001, bP (V.int .i64) 0 m108 [] x8), (2002, bP (V.int .i64) 0 m109 false x9), (2003, bP mk110E q1dII m110 [] x10), (2004, bP (V.int .i64) 0 m111 0 x11), (2005, bP mk110E q1dII m110 [] x12), (2006, bP mk112E q1dIIS m112 false x13), (2007, bP mk113E q1dII m113 false x14), (5013, q1bS_9 l18)], [2000], 0⟩ trivial ?_
        refine q1rq [] [(7, ⟨[.own 2003, .agg [.i ((12 : Int) + x3), .i (n17 : Int)]], [2003], [2003], [(2003, bP mk110E q1dII m110 [] x10)], .tup [.str (gM x10 [] (((12 : Int) + x3), (n17 : Int))), .bool (hM x10 (((12 : Int) + x3), (n17 : Int)))], [], [], []⟩)] ⟨129, [(0, .ptr 2000 0), (3, .ptr 3 0), (6, .i ((12 : Int) + x3)), (9, .str (gM x10 [] (((12 : Int) + x3), x4))), (13, .own 5013), (15, .str (gM x10 [] (((12 : Int) + x3), (n17 : Int)))), (16, .bool (hM x10 (((12 : Int) + x3), (n17 : Int)))), (85, .i x4), (86, .i (n17 : Int))], [(3, .cells 51 [.i x1, .i x2, .i x3, .i x4, .i x5, .str x6, .str x7, .opq, .opq, .opq, .opq, .opq, .opq, .opq, .opq, .opq, .opq, .opq, .opq, .opq, .opq, .opq, .opq, .opq, .opq, .opq, .opq, .opq]), (2000, .cells 115 (f66z0)), (2001, bP (V.int .i64) 0 m108 [] x8), (2002, bP (V.int .i64) 0 m109 false x9), (2003, bP mk110E q1dII m110 [] x10), (2004, bP (V.int .i64) 0 m111 0 x11), (2005, bP mk110E q1dII m110 [] x12), (2006, bP mk112E q1dIIS m112 false x13), (2007, bP mk113E q1dII m113 false x14), (5013, q1bS_9 l18)], [2000], 0⟩ (an1 (And.intro (lookP_spec (P := Tryz.prog) Tryz.underlying110 mk110E kE110 q1dII m110 [] [] (by kernel_rfl) (.tmp 93) (.tmp 96) 118 2003 x10 (((12 : Int) + x3), (n17 : Int))) (VLes.same [.own 2003, .agg [.i ((12 : Int) + x3), .i (n17 : Int)]]))) ?_
        refine AWp.seq ?_
        refine q1rq [] [] ⟨129, [(0, .ptr 2000 0), (3, .ptr 3 0), (6, .i ((12 : Int) + x3)), (9, .str (gM x10 [] (((12 : Int) + x3), x4))), (13, .own 5013), (15, .str (gM x10 [] (((12 : Int) + x3), (n17 : Int)))), (85, .i x4), (86, .i (n17 : Int)), (101, .bool (!(hM x10 (((12 : Int) + x3), (n17 : Int)))))], [(3, .cells 51 [.i x1, .i x2, .i x3, .i x4, .i x5, .str x6, .str x7, .opq, .opq, .opq, .opq, .opq, .opq, .opq, .opq, .opq, .opq, .opq, .opq, .opq, .opq, .opq, .opq, .opq, .opq, .opq, .opq, .opq]), (2000, .cells 115 (f66z0)), (2001, bP (V.int .i64) 0 m108 [] x8), (2002, bP (V.int .i64) 0 m109 false x9), (2003, bP mk110E q1dII m110 [] x10), (2004, bP (V.int .i64) 0 m111 0 x11), (2005, bP mk110E q1dII m110 [] x12), (2006, bP mk112E q1dIIS m112 false x13), (2007, bP mk113E q1dII m113 false x14), (5013, q1bS_9 l18)], [2000], 0⟩ trivial ?_
        refine AWp.cond (b := (!(hM x10 (((12 : Int) + x3), (n17 : Int))))) (by kernel_rfl) (fun hc3 => ?_) (fun hc3 => ?_)
        ·
          replace h := ite_tb hc3 h
          refine q1rq [] [] ⟨129, [(4, .bool false)], [(2000, .cells 115 (f66z0)), (2001, bP (V.int .i64) 0 m108 [] x8), (2002, bP (V.int .i64) 0 m109 false x9), (2003, bP mk110E q1dII m110 [] x10), (2004, bP (V.int .i64) 0 m111 0 x11), (2005, bP mk110E q1dII m110 [] x12), (2006, bP mk112E q1dIIS m112 false x13), (2007, bP mk113E q1dII m113 false x14)], [2000], 0⟩ trivial ?_
          have hret := Option.some.inj h
          subst hret
          refine AWp.le (Le.mk (s' := ⟨129, [(4, .bool false)], [(2000, .cells 115 (f66z0)), (2001, bP (V.int .i64) 0 m108 [] x8), (2002, bP (V.int .i64) 0 m109 false x9), (2003, bP mk110E q1dII m110 [] x10), (2004, bP (V.int .i64) 0 m111 0 x11), (2005, bP mk110E q1dII m110 [] x12), (2006, bP mk112E q1dIIS m112 false x13), (2007, bP mk113E q1dII m113 false x14)], [2000], 0⟩) rfl rfl ⟨.refl _, trivial⟩ ⟨⟨_, rfl, .refl _⟩, ⟨_, rfl, .refl _⟩, ⟨_, rfl, .refl _⟩, ⟨_, rfl, .refl _⟩, ⟨_, rfl, .refl _⟩, ⟨_, rfl, .refl _⟩, ⟨_, rfl, .refl _⟩, ⟨_, rfl, .refl _⟩, trivial⟩) ?_
          refine AWp.ret ?_
          refine thenQ_ret ?_
          refine blockQ_ret ?_
          refine thenQ_ret ?_
          refine thenQ_ret ?_
          refine blockQ_ret ?_
          refine joinQ_ret ?_
          exact bodyQ_ret _ rfl ⟨rfl, rfl⟩ rfl
        ·
          replace h := ite_fb hc3 h
          refine AWp.skip ?_
          refine thenQ_normal ?_
          obtain ⟨ob17, h⟩ := chk_some h
          refine q1rr [] [] ⟨129, (f66z2 x3 x10 x4 n17), [(3, .cells 51 [.i x1, .i x2, .i x3, .i x4, .i x5, .str x6, .str x7, .opq, .opq, .opq, .opq, .opq, .opq, .opq, .opq, .opq, .opq, .opq, .opq, .opq, .opq, .opq, .opq, .opq, .opq, .opq, .opq, .opq]), (2000, .cells 115 (f66z0)), (2001, bP (V.int .i64) 0 m108 [] x8), (2002, bP (V.int .i64) 0 m109 false x9), (2003, bP mk110E q1dII m110 [] x10), (2004, bP (V.int .i64) 0 m111 0 x11), (2005, bP mk110E q1dII m110 [] x12), (2006, bP mk112E q1dIIS m112 false x13), (2007, bP mk113E q1dII m113 false x14), (5013, .rows 9 1 ((l18).length + 1) (appF (l18).length (encF eS [] l18) (lstF 1 [.str (gM x10 [] (((12 : Int) + x3), (n17 : Int)))])))], [2000], 0⟩ (an1 ob17) ?_
          refine blockQ_normal ?_
          refine thenQ_normal ?_
          refine AWp.le (Le.mk (s' := ⟨129, (f66z2 x3 x10 x4 n17), [(3, .cells 51 [.i x1, .i x2, .i x3, .i x4, .i x5, .str x6, .str x7, .opq, .opq, .opq, .opq, .opq, .opq, .opq, .opq, .opq, .opq, .opq, .opq, .opq, .opq, .opq, .opq, .opq, .opq, .opq, .opq, .opq]), (2000, .cells 115 (f66z0)), (2001, bP (V.int .i64) 0 m108 [] x8), (2002, bP (V.int .i64) 0 m109 false x9), (2003, bP mk110E q1dII m110 [] x10), (2004, bP (V.int .i64) 0 m111 0 x11), (2005, bP mk110E q1dII m110 [] x12), (2006, bP mk112E q1dIIS m112 false x13), (2007, bP mk113E q1dII m113 false x14), (5013, q1bS_9 (l18 ++ [(gM x10 [] (((12 : Int) + x3), (n17 : Int)))]))], [2000], 0⟩) rfl rfl ⟨.refl _, .refl _, .refl _, .refl _, .refl _, .refl _, .refl _, trivial⟩ ⟨⟨_, rfl, .refl _⟩, ⟨_, rfl, .refl _⟩, ⟨_, rfl, .refl _⟩, ⟨_, rfl, .refl _⟩, ⟨_, rfl, .refl _⟩, ⟨_, rfl, .refl _⟩, ⟨_, rfl, .refl _⟩, ⟨_, rfl, .refl _⟩, ⟨_, rfl, .refl _⟩, ⟨_, rfl, (BLe.of (RL.app (RL.self _) (RL.lst (enc := eS) [(gM x10 [] (((12 : Int) + x3), (n17 : Int)))] rfl rfl (fun _ => rfl))))⟩, trivial⟩) ?_
          obtain ⟨ob18p, h⟩ := chk_some h
          have ob18 : -9223372036854775808 ≤ ((n17 : Int) + (1 : Int)) ∧ ((n17 : Int) + (1 : Int)) ≤ 9223372036854775807 := ⟨by omega, ob18p⟩
          refine q1rr [] [] ⟨129, [(0, .ptr 2000 0), (3, .ptr 3 0), (6, .i ((12 : Int) + x3)), (9, .str (gM x10 [] (((12 : Int) + x3), x4))), (13, .own 5013), (85, .i x4), (86, .i (((n17 + 1) : Nat) : Int))], [(3, .cells 51 [.i x1, .i x2, .i x3, .i x4, .i x5, .str x6, .str x7, .opq, .opq, .opq, .opq, .opq, .opq, .opq, .opq, .opq, .opq, .opq, .opq, .opq, .opq, .opq, .opq, .opq, .opq, .opq, .opq, .opq]), (2000, .cells 115 (f66z0)), (2001, bP (V.int .i64) 0 m108 [] x8), (2002, bP (V.int .i64) 0 m109 false x9), (2003, bP mk110E q1dII m110 [] x10), (2004, bP (V.int .i64) 0 m111 0 x11), (2005, bP mk110E q1dII m110 [] x12), (2006, bP mk112E q1dIIS m112 false x13), (2007, bP mk113E q1dII m113 false x14), (5013, q1bS_9 (l18 ++ [(gM x10 [] (((12 : Int) + x3), (n17 : Int)))]))], [2000], 0⟩ (an1 ob18) ?_
          rw [hC0] at h
          exact loopQ_normal (_, (n17 + 1), (l18 ++ [(gM x10 [] (((12 : Int) + x3), (n17 : Int)))])) (Le.mk rfl rfl ⟨.refl _, .refl _, .refl _, .refl _, .refl _, .refl _, .refl _, trivial⟩ ⟨⟨_, rfl, .refl _⟩, ⟨_, rfl, .refl _⟩, ⟨_, rfl, .refl _⟩, ⟨_, rfl, .refl _⟩, ⟨_, rfl, .refl _⟩, ⟨_, rfl, .refl _⟩, ⟨_, rfl, .refl _⟩, ⟨_, rfl, .refl _⟩, ⟨_, rfl, .refl _⟩, ⟨_, rfl, .refl _⟩, trivial⟩) h (Nat.lt_succ_self _)
      ·
        replace h := ite_fb hc2 h
        refine AWp.exit ?_
        refine thenQ_exit ?_
        refine thenQ_exit ?_
        refine blockQ_same ?_
        exact joinQ_normal (l18) (Le.mk rfl rfl ⟨.refl _, .refl _, .refl _, trivial⟩ ⟨⟨_, rfl, .refl _⟩, ⟨_, rfl, .refl _⟩, ⟨_, rfl, .refl _⟩, ⟨_, rfl, .refl _⟩, ⟨_, rfl, .refl _⟩, ⟨_, rfl, .refl _⟩, ⟨_, rfl, .refl _⟩, ⟨_, rfl, .refl _⟩, ⟨_, rfl, .refl _⟩, ⟨_, rfl, .refl _⟩, trivial⟩) h
    ·
      rintro l19 h
      replace h := (congrFun hK1 _).symm.trans h
      refine AWp.seq ?_
      exact nomatch (show (none : Option (Bool × (List (Int × List UInt8)) × (List (Int × Bool)) × (List ((Int × Int) × List UInt8)) × (List (Int × Int)) × (List ((Int × Int) × List UInt8)) × (List ((Int × Int × List UInt8) × Bool)) × (List ((Int × Int) × Bool)))) = some r from h)
abbrev f43z0 : List V := [.own 2001, .own 2002, .own 2003, .own 2004, .own 2005, .own 2006, .own 2007]
abbrev f43z1 : List (Nat × V) := [(0, .ptr 2000 0), (3, .ptr 3 0)]
abbrev f43z2 := (List ((Int × Int) × List UInt8))
def f43 (x1 : Int) (x2 : Int) (x3 : Int) (x4 : Int) (x5 : Int) (x6 : List UInt8) (x7 : List UInt8) (x8 : List (Int × List UInt8)) (x9 : List (Int × Bool)) (x10 : List ((Int × Int) × List UInt8)) (x11 : List (Int × Int)) (x12 : List ((Int × Int) × List UInt8)) (x13 : List ((Int × Int × List UInt8) × Bool)) (x14 : List ((Int × Int) × Bool)) : Option (Int × (List (Int × List UInt8)) × (List (Int × Bool)) × (List ((Int × Int) × List UInt8)) × (List (Int × Int)) × (List ((Int × Int) × List UInt8)) × (List ((Int × Int × List UInt8) × Bool)) × (List ((Int × Int) × Bool))) :=
  jn (fun (_ : Unit) =>
  jn (fun ((l18, l19, l20, l21, l22, l23, l24) : (List (Int × List UInt8)) × (List (Int × Bool)) × (List ((Int × Int) × List UInt8)) × (List (Int × Int)) × (List ((Int × Int) × List UInt8)) × (List ((Int × Int × List UInt8) × Bool)) × (List ((Int × Int) × Bool))) =>
  some ((0 : Int), l18, l19, l20, l21, l22, l23, l24)
  ) fun (K3 : ((List (Int × List UInt8)) × (List (Int × Bool)) × (List ((Int × Int) × List UInt8)) × (List (Int × Int)) × (List ((Int × Int) × List UInt8)) × (List ((Int × Int × List UInt8) × Bool)) × (List ((Int × Int) × Bool))) → Option (Int × (List (Int × List UInt8)) × (List (Int × Bool)) × (List ((Int × Int) × List UInt8)) × (List (Int × Int)) × (List ((Int × Int) × List UInt8)) × (List ((Int × Int × List UInt8) × Bool)) × (List ((Int × Int) × Bool)))) =>
  optc ((x2 == (2 : Int)) == true) (f57 x1 x2 x3 x4 x5 x6 x7) fun (r16 : Bool) =>
  if ((x2 == (2 : Int)) && r16) = true then (
  (f66 x1 x2 x3 x4 x5 x6 x7 x8 x9 x10 x11 x12 x13 x14).bind fun (r17 : Bool × (List (Int × List UInt8)) × (List (Int × Bool)) × (List ((Int × Int) × List UInt8)) × (List (Int × Int)) × (List ((Int × Int) × List UInt8)) × (List ((Int × Int × List UInt8) × Bool)) × (List ((Int × Int) × Bool))) =>
  if (!r17.1) then (
  some ((3 : Int), r17.2.1, r17.2.2.1, r17.2.2.2.1, r17.2.2.2.2.1, r17.2.2.2.2.2.1, r17.2.2.2.2.2.2.1, r17.2.2.2.2.2.2.2)
  ) else (
  K3 (r17.2.1, r17.2.2.1, r17.2.2.2.1, r17.2.2.2.2.1, r17.2.2.2.2.2.1, r17.2.2.2.2.2.2.1, r17.2.2.2.2.2.2.2)
  )
  ) else (
  K3 (x8, x9, x10, x11, x12, x13, x14)
  )
  ) fun (K1 : Unit → Option (Int × (List (Int × List UInt8)) × (List (Int × Bool)) × (List ((Int × Int) × List UInt8)) × (List (Int × Int)) × (List ((Int × Int) × List UInt8)) × (List ((Int × Int × List UInt8) × Bool)) × (List ((Int × Int) × Bool)))) =>
  (f50 x1 x2 x3 x4 x5 x6 x7).bind fun (r15 : Int × Bool) =>
  if r15.2 then (
  jn (fun (_ : Unit) =>
  if (x2 == (3 : Int)) = true then (
  if (x4 != (gM x11 (0 : Int) x3)) then (
  some ((2 : Int), x8, x9, x10, x11, x12, x13, x14)
  ) else (
  K1 ()
  )
  ) else (
  K1 ()
  )
  ) fun (K2 : Unit → Option (Int × (List (Int × List UInt8)) × (List (Int × Bool)) × (List ((Int × Int) × List UInt8)) × (List (Int × Int)) × (List ((Int × Int) × List UInt8)) × (List ((Int × Int × List UInt8) × Bool)) × (List ((Int × Int) × Bool)))) =>
  if (hM x8 x4) = true then (
  if (!((gM x8 [] x4) == x6)) = true then (
  some ((1 : Int), x8, x9, x10, x11, x12, x13, x14)
  ) else (
  if (gM x9 false x4) then (
  some ((1 : Int), x8, x9, x10, x11, x12, x13, x14)
  ) else (
  K2 ()
  )
  )
  ) else (
  chk (false = true → false = true → (!((gM x8 [] x4) == x6)) = false → false = true) <|
  K2 ()
  )
  ) else (
  K1 ()
  )
set_option maxRecDepth 100000 in
theorem f43_ok  (x1 : Int) (x2 : Int) (x3 : Int) (x4 : Int) (x5 : Int) (x6 : List UInt8) (x7 : List UInt8) (x8 : List (Int × List UInt8)) (x9 : List (Int × Bool)) (x10 : List ((Int × Int) × List UInt8)) (x11 : List (Int × Int)) (x12 : List ((Int × Int) × List UInt8)) (x13 : List ((Int × Int × List UInt8) × Bool)) (x14 : List ((Int × Int) × Bool)) (r : Int × (List (Int × List UInt8)) × (List (Int × Bool)) × (List ((Int × Int) × List UInt8)) × (List (Int × Int)) × (List ((Int × Int) × List UInt8)) × (List ((Int × Int × List UInt8) × Bool)) × (List ((Int × Int) × Bool))) (h : f43 x1 x2 x3 x4 x5 x6 x7 x8 x9 x10 x11 x12 x13 x14 = some r)  : Spec1 Tryz.prog 43 [] [2000] [(2000, .cells 115 [.own 2001, .own 2002, .own 2003, .own 2004, .own 2005, .own 2006, .own 2007]), (2001, bP (V.int .i64) 0 m108 [] x8), (2002, bP (V.int .i64) 0 m109 false x9), (2003, bP mk110E (default : Int × Int) m110 [] x10), (2004, bP (V.int .i64) 0 m111 0 x11), (2005, bP mk110E (default : Int × Int) m110 [] x12), (2006, bP mk112E (default : Int × Int × List UInt8) m112 false x13), (2007, bP mk113E (default : Int × Int) m113 false x14)] [.ptr 2000 0, .agg [.int .i64 x1, .int .i64 x2, .int .i64 x3, .int .i64 x4, .int .i64 x5, .str x6, .str x7, .opq, .opq, .opq, .opq, .opq, .opq, .opq, .opq, .opq, .opq, .opq, .opq, .opq, .opq, .opq, .opq, .opq, .opq, .opq, .opq, .opq]] (.int .i64 r.1) [(2000, .cells 115 [.own 2001, .own 2002, .own 2003, .own 2004, .own 2005, .own 2006, .own 2007]), (2001, bP (V.int .i64) 0 m108 [] r.2.1), (2002, bP (V.int .i64) 0 m109 false r.2.2.1), (2003, bP mk110E (default : Int × Int) m110 [] r.2.2.2.1), (2004, bP (V.int .i64) 0 m111 0 r.2.2.2.2.1), (2005, bP mk110E (default : Int × Int) m110 [] r.2.2.2.2.2.1), (2006, bP mk112E (default : Int × Int × List UInt8) m112 false r.2.2.2.2.2.2.1), (2007, bP mk113E (default : Int × Int) m113 false r.2.2.2.2.2.2.2)] := by
  unfold f43 at h
  refine Spec1.body 0 _ _ Tryz.func43 rfl Tryz.ntmps43 rfl rfl ?_
  refine q1rq [] [] ⟨69, (f43z1), [(3, .cells 51 [.i x1, .i x2, .i x3, .i x4, .i x5, .str x6, .str x7, .opq, .opq, .opq, .opq, .opq, .opq, .opq, .opq, .opq, .opq, .opq, .opq, .opq, .opq, .opq, .opq, .opq, .opq, .opq, .opq, .opq]), (2000, .cells 115 (f43z0)), (2001, bP (V.int .i64) 0 m108 [] x8), (2002, bP (V.int .i64) 0 m109 false x9), (2003, bP mk110E q1dII m110 [] x10), (2004, bP (V.int .i64) 0 m111 0 x11), (2005, bP mk110E q1dII m110 [] x12), (2006, bP mk112E q1dIIS m112 false x13), (2007, bP mk113E q1dII m113 false x14)], [2000], 0⟩ trivial ?_
  obtain ⟨K1, hK1, h⟩ := jn_some h
  refine AWp.join (α := Unit) (fun (x : Unit) => match x with | () => ⟨69, (f43z1), [(3, .cells 51 [.i x1, .i x2, .i x3, .i x4, .i x5, .str x6, .str x7, .opq, .opq, .opq, .opq, .opq, .opq, .opq, .opq, .opq, .opq, .opq, .opq, .opq, .opq, .opq, .opq, .opq, .opq, .opq, .opq, .opq]), (2000, .cells 115 (f43z0)), (2001, bP (V.int .i64) 0 m108 [] x8), (2002, bP (V.int .i64) 0 m109 false x9), (2003, bP mk110E q1dII m110 [] x10), (2004, bP (V.int .i64) 0 m111 0 x11), (2005, bP mk110E q1dII m110 [] x12), (2006, bP mk112E q1dIIS m112 false x13), (2007, bP mk113E q1dII m113 false x14)], [2000], 0⟩) (fun x => K1 x = some r) ?_ ?_
  ·
    refine AWp.seq ?_
    obtain ⟨r15, hr15, h⟩ := bind_ok h
    refine q1rr [] [(1, ⟨[.agg [.i x1, .i x2, .i x3, .i x4, .i x5, .str x6, .str x7, .opq, .opq, .opq, .opq, .opq, .opq, .opq, .opq, .opq, .opq, .opq, .opq, .opq, .opq, .opq, .opq, .opq, .opq, .opq, .opq, .opq]], [], [], [], .tup [.i r15.1, .bool r15.2], [], [], []⟩)] ⟨69, [(0, .ptr 2000 0), (3, .ptr 3 0), (6, .bool r15.2)], [(3, .cells 51 [.i x1, .i x2, .i x3, .i x4, .i x5, .str x6, .str x7, .opq, .opq, .opq, .opq, .opq, .opq, .opq, .opq, .opq, .opq, .opq, .opq, .opq, .opq, .opq, .opq, .opq, .opq, .opq, .opq, .opq]), (2000, .cells 115 (f43z0)), (2001, bP (V.int .i64) 0 m108 [] x8), (2002, bP (V.int .i64) 0 m109 false x9), (2003, bP mk110E q1dII m110 [] x10), (2004, bP (V.int .i64) 0 m111 0 x11), (2005, bP mk110E q1dII m110 [] x12), (2006, bP mk112E q1dIIS m112 false x13), (2007, bP mk113E q1dII m113 false x14)], [2000], 0⟩ (an1 (cpT (f50_ok _ _ _ _ _ _ _ _ hr15))) ?_
    refine thenQ_normal ?_
    refine q1rq [] [] ⟨69, [(0, .ptr 2000 0), (3, .ptr 3 0), (14, .bool r15.2)], [(3, .cells 51 [.i x1, .i x2, .i x3, .i x4, .i x5, .str x6, .str x7, .opq, .opq, .opq, .opq, .opq, .opq, .opq, .opq, .opq, .opq, .opq, .opq, .opq, .opq, .opq, .opq, .opq, .opq, .opq, .opq, .opq]), (2000, .cells 115 (f43z0)), (2001, bP (V.int .i64) 0 m108 [] x8), (2002, bP (V.int .i64) 0 m109 false x9), (2003, bP mk110E q1dII m110 [] x10), (2004, bP (V.int .i64) 0 m111 0 x11), (2005, bP mk110E q1dII m110 [] x12), (2006, bP mk112E q1dIIS m112 false x13), (2007, bP mk113E q1dII m113 false x14)], [2000], 0⟩ trivial ?_
    refine AWp.cond (b := r15.2) (by kernel_rfl) (fun hc1 => ?_) (fun hc1 => ?_)
    ·
      replace h := ite_tb hc1 h
      obtain ⟨K2, hK2, h⟩ := jn_some h
      refine AWp.join (α := Unit) (fun (x : Unit) => match x with | () => ⟨69, (f43z1), [(3, .cells 51 [.i x1, .i x2, .i x3, .i x4, .i x5, .str x6, .str x7, .opq, .opq, .opq, .opq, .opq, .opq, .opq, .opq, .opq, .opq, .opq, .opq, .opq, .opq, .opq, .opq, .opq, .opq, .opq, .opq, .opq]), (2000, .cells 115 (f43z0)), (2001, bP (V.int .i64) 0 m108 [] x8), (2002, bP (V.int .i64) 0 m109 false x9), (2003, bP mk110E q1dII m110 [] x10), (2004, bP (V.int .i64) 0 m111 0 x11), (2005, bP mk110E q1dII m110 [] x12), (2006, bP mk112E q1dIIS m112 false x13), (2007, bP mk113E q1dII m113 false x14)], [2000], 0⟩) (fun x => K2 x = some r) ?_ ?_
      ·
        refine q1rq [] [(6, ⟨[.own 2001, .i x4], [2001], [2001], [(2001, bP (V.int .i64) 0 m108 [] x8)], .tup [.str (gM x8 [] x4), .bool (hM x8 x4)], [], [], []⟩)] ⟨69, [(0, .ptr 2000 0), (3, .ptr 3 0), (7, .str (gM x8 [] x4)), (8, .bool (hM x8 x4))], [(3, .cells 51 [.i x1, .i x2, .i x3, .i x4, .i x5, .str x6, .str x7, .opq, .opq, .opq, .opq, .opq, .opq, .opq, .opq, .opq, .opq, .opq, .opq, .opq, .opq, .opq, .opq, .opq, .opq, .opq, .opq, .opq]), (2000, .cells 115 (f43z0)), (2001, bP (V.int .i64) 0 m108 [] x8), (2002, bP (V.int .i64) 0 m109 false x9), (2003, bP mk110E q1dII m110 [] x10), (2004, bP (V.int .i64) 0 m111 0 x11), (2005, bP mk110E q1dII m110 [] x12), (2006, bP mk112E q1dIIS m112 false x13), (2007, bP mk113E q1dII m113 false x14)], [2000], 0⟩ (an1 (And.intro (lookP_spec (P := Tryz.prog) Tryz.underlying108 (V.int .i64) kE108 0 m108 [] [] (by kernel_rfl) (.tmp 19) (.tmp 21) 118 2001 x8 x4) (VLes.same [.own 2001, .i x4]))) ?_
        refine AWp.seq ?_
        by_cases hg4_1 : (hM x8 x4) = true
        ·
          replace h := ite_t hg4_1 h
          by_cases hg4_6 : (!((gM x8 [] x4) == x6)) = true
          ·
            replace h := ite_t hg4_6 h
            have ob0 := idA (true = true)
            have ob1 := idA (true = true)
            have ob2 := idA (true = true)
            have ob3 := idA (true = true)
            have ob4 := idA (false = true)
            have ob5 := idA (false = true)
            have ob6 := idA (false = true)
            have ob7 := idA (false = true)
            have ob8 : true = true → true = true → true = false → false = true := by first | decide | omega | simp | (intro h; cases h)
            have ob9 := idA (true = true)
            have ob10 : true = true → true = true → true = true := fun _ h => h
            refine q1rr [] [(1, ⟨[], [], [], [], (.bool true), [], [0], []⟩), (6, ⟨[], [], [], [], (.opt true (.bool true)), [], [0], []⟩), (13, ⟨[], [], [], [], .bool (gM x9 false x4), [], [], []⟩)] ⟨69, [(0, .ptr 2000 0), (3, .ptr 3 0), (40, .bool true)], [(3, .cells 51 [.i x1, .i x2, .i x3, .i x4, .i x5, .str x6, .str x7, .opq, .opq, .opq, .opq, .opq, .opq, .opq, .opq, .opq, .opq, .opq, .opq, .opq, .opq, .opq, .opq, .opq, .opq, .opq, .opq, .opq]), (2000, .cells 115 (f43z0)), (2001, bP (V.int .i64) 0 m108 [] x8), (2002, bP (V.int .i64) 0 m109 false x9), (2003, bP mk110E q1dII m110 [] x10), (2004, bP (V.int .i64) 0 m111 0 x11), (2005, bP mk110E q1dII m110 [] x12), (2006, bP mk112E q1dIIS m112 false x13), (2007, bP mk113E q1dII m113 false x14)], [2000], 0⟩ (ac6 (show ((.bool (hM x8 x4)) : V) = (.bool true) from (congrArg (fun x => ((.bool x) : V)) hg4_1)) (an1 ob0) (an2 ob1 ob2) (And.intro (an1 ob3) (show ((.opt true (.bool (!((gM x8 [] x4) == x6)))) : V) = (.opt true (.bool true)) from (congrArg (fun x => ((.opt true (.bool x)) : V)) hg4_6))) (an1 ob4) (an1 ob5) (an5 (an1 ob6) (an1 ob7) trivial (And.intro ob8 (an1 ob9)) ob10)) ?_
            refine thenQ_normal ?_
            refine AWp.cond (b := true) (by kernel_rfl) (fun hc => ?_) (fun hc => ?_)
            ·
              clear hc
              refine q1rq [] [] ⟨69, [(4, .i (1 : Int))], [(2000, .cells 115 (f43z0)), (2001, bP (V.int .i64) 0 m108 [] x8), (2002, bP (V.int .i64) 0 m109 false x9), (2003, bP mk110E q1dII m110 [] x10), (2004, bP (V.int .i64) 0 m111 0 x11), (2005, bP mk110E q1dII m110 [] x12), (2006, bP mk112E q1dIIS m112 false x13), (2007, bP mk113E q1dII m113 false x14)], [2000], 0⟩ trivial ?_
              have hret := Option.some.inj h
              subst hret
              refine AWp.le (Le.mk (s' := ⟨69, [(4, .i (1 : Int))], [(2000, .cells 115 (f43z0)), (2001, bP (V.int .i64) 0 m108 [] x8), (2002, bP (V.int .i64) 0 m109 false x9), (2003, bP mk110E q1dII m110 [] x10), (2004, bP (V.int .i64) 0 m111 0 x11), (2005, bP mk110E q1dII m110 [] x12), (2006, bP mk112E q1dIIS m112 false x13), (2007, bP mk113E q1dII m113 false x14)], [2000], 0⟩) rfl rfl ⟨.refl _, trivial⟩ ⟨⟨_, rfl, .refl _⟩, ⟨_, rfl, .refl _⟩, ⟨_, rfl, .refl _⟩, ⟨_, rfl, .refl _⟩, ⟨_, rfl, .refl _⟩, ⟨_, rfl, .refl _⟩, ⟨_, rfl, .refl _⟩, ⟨_, rfl, .refl _⟩, trivial⟩) ?_
              refine AWp.ret ?_
              refine joinQ_ret ?_
              refine joinQ_ret ?_
              exact bodyQ_ret _ rfl ⟨rfl, rfl⟩ rfl
            ·
              cases hc
          ·
            replace h := ite_f hg4_6 h
            have ob0 := idA (true = true)
            have ob1 := idA (true = true)
            have ob2 := idA (true = true)
            have ob3 := idA (true = true)
            have ob4 := idA (true = true)
            have ob5 := idA (true = true)
            have ob6 := idA (true = true)
            have ob7 := idA (true = true)
            have ob8 := idA (true = true)
            have ob9 := idA (true = true)
            have ob10 : true = true → True := by first | decide | omega | simp | (intro h; cases h)
            have ob11 := idA (true = true)
            have ob12 : true = true → true = true → true = true := fun _ h => h
            refine q1rr [] [(1, ⟨[], [], [], [], (.bool true), [], [0], []⟩), (6, ⟨[], [], [], [], (.opt true (.bool false)), [], [0], []⟩), (13, ⟨[.own 2002, .i x4], [2002], [2002], [(2002, bP (V.int .i64) 0 m109 false x9)], .bool (gM x9 false x4), [], [], []⟩)] ⟨69, [(0, .ptr 2000 0), (3, .ptr 3 0), (40, .bool (gM x9 false x4))], [(3, .cells 51 [.i x1, .i x2, .i x3, .i x4, .i x5, .str x6, .str x7, .opq, .opq, .opq, .opq, .opq, .opq, .opq, .opq, .opq, .opq, .opq, .opq, .opq, .opq, .opq, .opq, .opq, .opq, .opq, .opq, .opq]), (2000, .cells 115 (f43z0)), (2001, bP (V.int .i64) 0 m108 [] x8), (2002, bP (V.int .i64) 0 m109 false x9), (2003, bP mk110E q1dII m110 [] x10), (2004, bP (V.int .i64) 0 m111 0 x11), (2005, bP mk110E q1dII m110 [] x12), (2006, bP mk112E q1dIIS m112 false x13), (2007, bP mk113E q1dII m113 false x14)], [2000], 0⟩ (ac6 (show ((.bool (hM x8 x4)) : V) = (.bool true) from (congrArg (fun x => ((.bool x) : V)) hg4_1)) (an1 ob0) (an2 ob1 ob2) (And.intro (an1 ob3) (show ((.opt true (.bool (!((gM x8 [] x4) == x6)))) : V) = (.opt true (.bool false)) from (congrArg (fun x => ((.opt true (.bool x)) : V)) (Bool.eq_false_iff.2 hg4_6)))) (an1 ob4) (an1 ob5) (an5 (an1 ob6) (an1 ob7) (And.intro (And.intro (lookP1_spec (P := Tryz.prog) Tryz.underlying109 (V.int .i64) kE109 0 m109 false false (by kernel_rfl) (.tmp 35) (.tmp 37) 4 2002 x9 x4) (VLes.same [.own 2002, .i x4])) (an2 ob8 ob9)) (And.intro ob10 (an1 ob11)) ob12)) ?_
            refine thenQ_normal ?_
            refine AWp.cond (b := (gM x9 false x4)) (by kernel_rfl) (fun hc4 => ?_) (fun hc4 => ?_)
            ·
              replace h := ite_tb hc4 h
              refine q1rq [] [] ⟨69, [(4, .i (1 : Int))], [(2000, .cells 115 (f43z0)), (2001, bP (V.int .i64) 0 m108 [] x8), (2002, bP (V.int .i64) 0 m109 false x9), (2003, bP mk110E q1dII m110 [] x10), (2004, bP (V.int .i64) 0 m111 0 x11), (2005, bP mk110E q1dII m110 [] x12), (2006, bP mk112E q1dIIS m112 false x13), (2007, bP mk113E q1dII m113 false x14)], [2000], 0⟩ trivial ?_
              have hret := Option.some.inj h
              subst hret
              refine AWp.le (Le.mk (s' := ⟨69, [(4, .i (1 : Int))], [(2000, .cells 115 (f43z0)), (2001, bP (V.int .i64) 0 m108 [] x8), (2002, bP (V.int .i64) 0 m109 false x9), (2003, bP mk110E q1dII m110 [] x10), (2004, bP (V.int .i64) 0 m111 0 x11), (2005, bP mk110E q1dII m110 [] x12), (2006, bP mk112E q1dIIS m112 false x13), (2007, bP mk113E q1dII m113 false x14)], [2000], 0⟩) rfl rfl ⟨.refl _, trivial⟩ ⟨⟨_, rfl, .refl _⟩, ⟨_, rfl, .refl _⟩, ⟨_, rfl, .refl _⟩, ⟨_, rfl, .refl _⟩, ⟨_, rfl, .refl _⟩, ⟨_, rfl, .refl _⟩, ⟨_, rfl, .refl _⟩, ⟨_, rfl, .refl _⟩, trivial⟩) ?_
              refine AWp.ret ?_
              refine joinQ_ret ?_
              refine joinQ_ret ?_
              exact bodyQ_ret _ rfl ⟨rfl, rfl⟩ rfl
            ·
              replace h := ite_fb hc4 h
              refine AWp.skip ?_
              exact joinQ_normal () (Le.mk rfl rfl ⟨.refl _, .refl _, trivial⟩ ⟨⟨_, rfl, .refl _⟩, ⟨_, rfl, .refl _⟩, ⟨_, rfl, .refl _⟩, ⟨_, rfl, .refl _⟩, ⟨_, rfl, .refl _⟩, ⟨_, rfl, .refl _⟩, ⟨_, rfl, .refl _⟩, ⟨_, rfl, .refl _⟩, ⟨_, rfl, .refl _⟩, trivial⟩) h
        ·
          replace h := ite_f hg4_1 h
          have ob0 := idA (false = true)
          have ob1 := idA (false = true)
          have ob2 := idA (false = true)
          have ob3 := idA (false = true)
          have ob4 := idA (false = true)
          have ob5 := idA (false = true)
          have ob6 := idA (false = true)
          have ob7 := idA (false = true)
          obtain ⟨ob8, h⟩ := chk_some h
          have ob9 := idA (false = true)
          have ob10 : true = true → false = true → false = true := fun _ h => h
          refine q1rr [] [(1, ⟨[], [], [], [], (.bool false), [], [0], []⟩), (13, ⟨[], [], [], [], .bool (gM x9 false x4), [], [], []⟩)] ⟨69, [(0, .ptr 2000 0), (3, .ptr 3 0), (40, .bool false)], [(3, .cells 51 [.i x1, .i x2, .i x3, .i x4, .i x5, .str x6, .str x7, .opq, .opq, .opq, .opq, .opq, .opq, .opq, .opq, .opq, .opq, .opq, .opq, .opq, .opq, .opq, .opq, .opq, .opq, .opq, .opq, .opq]), (2000, .cells 115 (f43z0)), (2001, bP (V.int .i64) 0 m108 [] x8), (2002, bP (V.int .i64) 0 m109 false x9), (2003, bP mk110E q1dII m110 [] x10), (2004, bP (V.int .i64) 0 m111 0 x11), (2005, bP mk110E q1dII m110 [] x12), (2006, bP mk112E q1dIIS m112 false x13), (2007, bP mk113E q1dII m113 false x14)], [2000], 0⟩ (ac6 (show ((.bool (hM x8 x4)) : V) = (.bool false) from (congrArg (fun x => ((.bool x) : V)) (Bool.eq_false_iff.2 hg4_1))) (an1 ob0) (an2 ob1 ob2) (an1 ob3) (an1 ob4) (an1 ob5) (an5 (an1 ob6) (an1 ob7) trivial (And.intro ob8 (an1 ob9)) ob10)) ?_
          refine thenQ_normal ?_
          refine AWp.cond (b := false) (by kernel_rfl) (fun hc => ?_) (fun hc => ?_)
          ·
            cases hc
          ·
            clear hc
            refine AWp.skip ?_
            exact joinQ_normal () (Le.mk rfl rfl ⟨.refl _, .refl _, trivial⟩ ⟨⟨_, rfl, .refl _⟩, ⟨_, rfl, .refl _⟩, ⟨_, rfl, .refl _⟩, ⟨_, rfl, .refl _⟩, ⟨_, rfl, .refl _⟩, ⟨_, rfl, .refl _⟩, ⟨_, rfl, .refl _⟩, ⟨_, rfl, .refl _⟩, ⟨_, rfl, .refl _⟩, trivial⟩) h
      ·
        rintro ⟨⟩ h
        replace h := (congrFun hK2 _).symm.trans h
        refine AWp.seq ?_
        by_cases hg6_3 : (x2 == (3 : Int)) = true
        ·
          replace h := ite_t hg6_3 h
          have ob13 := idA (true = true)
          have ob14 := idA (true = true)
          have ob15 := idA (true = true)
          have ob16 := idA (true = true)
          have ob17 := idA (true = true)
          have ob18 := idA (true = true)
          have ob19 := idA (true = true)
          have ob20 := idA (true = true)
          have ob21 : true = true → true = true → true = true := fun _ h => h
          refine q1rr [] [(3, ⟨[], [], [], [], (.bool true), [], [0], []⟩), (12, ⟨[.own 2004, .i x3], [2004], [2004], [(2004, bP (V.int .i64) 0 m111 0 x11)], .i (gM x11 (0 : Int) x3), [], [], []⟩)] ⟨69, [(0, .ptr 2000 0), (3, .ptr 3 0), (55, .bool (x4 != (gM x11 (0 : Int) x3)))], [(3, .cells 51 [.i x1, .i x2, .i x3, .i x4, .i x5, .str x6, .str x7, .opq, .opq, .opq, .opq, .opq, .opq, .opq, .opq, .opq, .opq, .opq, .opq, .opq, .opq, .opq, .opq, .opq, .opq, .opq, .opq, .opq]), (2000, .cells 115 (f43z0)), (2001, bP (V.int .i64) 0 m108 [] x8), (2002, bP (V.int .i64) 0 m109 false x9), (2003, bP mk110E q1dII m110 [] x10), (2004, bP (V.int .i64) 0 m111 0 x11), (2005, bP mk110E q1dII m110 [] x12), (2006, bP mk112E q1dIIS m112 false x13), (2007, bP mk113E q1dII m113 false x14)], [2000], 0⟩ (ac6 (show ((.bool (x2 == (3 : Int))) : V) = (.bool true) from (congrArg (fun x => ((.bool x) : V)) hg6_3)) (an1 ob13) (an1 ob14) (an1 ob15) (an1 ob16) (an1 ob17) (an3 (And.intro (And.intro (lookP1_spec (P := Tryz.prog) Tryz.underlying111 (V.int .i64) kE111 0 m111 0 (0 : Int) (by kernel_rfl) (.tmp 50) (.tmp 52) 3 2004 x11 x3) (VLes.same [.own 2004, .i x3])) (an2 ob18 ob19)) (an1 ob20) ob21)) ?_
          refine thenQ_normal ?_
          refine AWp.cond (b := (x4 != (gM x11 (0 : Int) x3))) (by kernel_rfl) (fun hc6 => ?_) (fun hc6 => ?_)
          ·
            replace h := ite_tb hc6 h
            refine q1rq [] [] ⟨69, [(4, .i (2 : Int))], [(2000, .cells 115 (f43z0)), (2001, bP (V.int .i64) 0 m108 [] x8), (2002, bP (V.int .i64) 0 m109 false x9), (2003, bP mk110E q1dII m110 [] x10), (2004, bP (V.int .i64) 0 m111 0 x11), (2005, bP mk110E q1dII m110 [] x12), (2006, bP mk112E q1dIIS m112 false x13), (2007, bP mk113E q1dII m113 false x14)], [2000], 0⟩ trivial ?_
            have hret := Option.some.inj h
            subst hret
            refine AWp.le (Le.mk (s' := ⟨69, [(4, .i (2 : Int))], [(2000, .cells 115 (f43z0)), (2001, bP (V.int .i64) 0 m108 [] x8), (2002, bP (V.int .i64) 0 m109 false x9), (2003, bP mk110E q1dII m110 [] x10), (2004, bP (V.int .i64) 0 m111 0 x11), (2005, bP mk110E q1dII m110 [] x12), (2006, bP mk112E q1dIIS m112 false x13), (2007, bP mk113E q1dII m113 false x14)], [2000], 0⟩) rfl rfl ⟨.refl _, trivial⟩ ⟨⟨_, rfl, .refl _⟩, ⟨_, rfl, .refl _⟩, ⟨_, rfl, .refl _⟩, ⟨_, rfl, .refl _⟩, ⟨_, rfl, .refl _⟩, ⟨_, rfl, .refl _⟩, ⟨_, rfl, .refl _⟩, ⟨_, rfl, .refl _⟩, trivial⟩) ?_
            refine AWp.ret ?_
            refine joinQ_ret ?_
            exact bodyQ_ret _ rfl ⟨rfl, rfl⟩ rfl
          ·
            replace h := ite_fb hc6 h
            refine AWp.skip ?_
            exact joinQ_normal () (Le.mk rfl rfl ⟨.refl _, .refl _, trivial⟩ ⟨⟨_, rfl, .refl _⟩, ⟨_, rfl, .refl _⟩, ⟨_, rfl, .refl _⟩, ⟨_, rfl, .refl _⟩, ⟨_, rfl, .refl _⟩, ⟨_, rfl, .refl _⟩, ⟨_, rfl, .refl _⟩, ⟨_, rfl, .refl _⟩, ⟨_, rfl, .refl _⟩, trivial⟩) h
        ·
          replace h := ite_f hg6_3 h
          have ob13 := idA (false = true)
          have ob14 := idA (false = true)
          have ob15 := idA (false = true)
          have ob16 := idA (false = true)
          have ob17 := idA (false = true)
          have ob18 := idA (false = true)
          have ob19 := idA (false = true)
          have ob20 : true = true → false = true → false = true := fun _ h => h
          refine q1rr [] [(3, ⟨[], [], [], [], (.bool false), [], [0], []⟩), (12, ⟨[], [], [], [], .i (gM x11 (0 : Int) x3), [], [], []⟩)] ⟨69, [(0, .ptr 2000 0), (3, .ptr 3 0), (55, .bool false)], [(3, .cells 51 [.i x1, .i x2, .i x3, .i x4, .i x5, .str x6, .str x7, .opq, .opq, .opq, .opq, .opq, .opq, .opq, .opq, .opq, .opq, .opq, .opq, .opq, .opq, .opq, .opq, .opq, .opq, .opq, .opq, .opq]), (2000, .cells 115 (f43z0)), (2001, bP (V.int .i64) 0 m108 [] x8), (2002, bP (V.int .i64) 0 m109 false x9), (2003, bP mk110E q1dII m110 [] x10), (2004, bP (V.int .i64) 0 m111 0 x11), (2005, bP mk110E q1dII m110 [] x12), (2006, bP mk112E q1dIIS m112 false x13), (2007, bP mk113E q1dII m113 false x14)], [2000], 0⟩ (ac6 (show ((.bool (x2 == (3 : Int))) : V) = (.bool false) from (congrArg (fun x => ((.bool x) : V)) (Bool.eq_false_iff.2 hg6_3))) (an1 ob13) (an1 ob14) (an1 ob15) (an1 ob16) (an1 ob17) (an3 trivial (an2 ob18 ob19) ob20)) ?_
          refine thenQ_normal ?_
          refine AWp.cond (b := false) (by kernel_rfl) (fun hc => ?_) (fun hc => ?_)
          ·
            cases hc
          ·
            clear hc
            refine AWp.skip ?_
            exact joinQ_normal () (Le.mk rfl rfl ⟨.refl _, .refl _, trivial⟩ ⟨⟨_, rfl, .refl _⟩, ⟨_, rfl, .refl _⟩, ⟨_, rfl, .refl _⟩, ⟨_, rfl, .refl _⟩, ⟨_, rfl, .refl _⟩, ⟨_, rfl, .refl _⟩, ⟨_, rfl, .refl _⟩, ⟨_, rfl, .refl _⟩, ⟨_, rfl, .refl _⟩, trivial⟩) h
    ·
      replace h := ite_fb hc1 h
      refine AWp.skip ?_
      exact joinQ_normal () (Le.mk rfl rfl ⟨.refl _, .refl _, trivial⟩ ⟨⟨_, rfl, .refl _⟩, ⟨_, rfl, .refl _⟩, ⟨_, rfl, .refl _⟩, ⟨_, rfl, .refl _⟩, ⟨_, rfl, .refl _⟩, ⟨_, rfl, .refl _⟩, ⟨_, rfl, .refl _⟩, ⟨_, rfl, .refl _⟩, ⟨_, rfl, .refl _⟩, trivial⟩) h
  ·
    rintro ⟨⟩ h
    replace h := (congrFun hK1 _).symm.trans h
    obtain ⟨K3, hK3, h⟩ := jn_some h
    refine AWp.join (α := (List (Int × List UInt8)) × (List (Int × Bool)) × (f43z2) × (List (Int × Int)) × (f43z2) × (List ((Int × Int × List UInt8) × Bool)) × (List ((Int × Int) × Bool))) (fun (x : (List (Int × List UInt8)) × (List (Int × Bool)) × (f43z2) × (List (Int × Int)) × (f43z2) × (List ((Int × Int × List UInt8) × Bool)) × (List ((Int × Int) × Bool))) => match x with | (l18, l19, l20, l21, l22, l23, l24) => ⟨69, [], [(2000, .cells 115 (f43z0)), (2001, bP (V.int .i64) 0 m108 [] l18), (2002, bP (V.int .i64) 0 m109 false l19), (2003, bP mk110E q1dII m110 [] l20), (2004, bP (V.int .i64) 0 m111 0 l21), (2005, bP mk110E q1dII m110 [] l22), (2006, bP mk112E q1dIIS m112 false l23), (2007, bP mk113E q1dII m113 false l24)], [2000], 0⟩) (fun x => K3 x = some r) ?_ ?_
    ·
      refine AWp.seq ?_
      obtain ⟨r16, hr16, h⟩ := optc_some h
      by_cases hg8_7 : ((x2 == (2 : Int)) && r16) = true
      ·
        replace h := ite_t hg8_7 h
        obtain ⟨r17, hr17, h⟩ := bind_ok h
        have ob22 := idA (((x2 == (2 : Int)) == true) = true)
        have ob23 := bqA (x2 == (2 : Int)) true
        have ob24 := idA (true = true)
        have ob25 := idA (true = true)
        have ob26 : true = true → true = true → true = true := fun _ h => h
        refine q1rr [] [(5, ⟨[.agg [.i x1, .i x2, .i x3, .i x4, .i x5, .str x6, .str x7, .opq, .opq, .opq, .opq, .opq, .opq, .opq, .opq, .opq, .opq, .opq, .opq, .opq, .opq, .opq, .opq, .opq, .opq, .opq, .opq, .opq]], [], [], [], .bool r16, [], [], []⟩), (7, ⟨[], [], [], [], (.bool true), [], [0], []⟩), (10, ⟨[.ptr 2000 0, .agg [.i x1, .i x2, .i x3, .i x4, .i x5, .str x6, .str x7, .opq, .opq, .opq, .opq, .opq, .opq, .opq, .opq, .opq, .opq, .opq, .opq, .opq, .opq, .opq, .opq, .opq, .opq, .opq, .opq, .opq]], [2000, 2001, 2002, 2003, 2004, 2005, 2006, 2007], [2000], [(2000, .cells 115 (f43z0)), (2001, bP (V.int .i64) 0 m108 [] r17.2.1), (2002, bP (V.int .i64) 0 m109 false r17.2.2.1), (2003, bP mk110E q1dII m110 [] r17.2.2.2.1), (2004, bP (V.int .i64) 0 m111 0 r17.2.2.2.2.1), (2005, bP mk110E q1dII m110 [] r17.2.2.2.2.2.1), (2006, bP mk112E q1dIIS m112 false r17.2.2.2.2.2.2.1), (2007, bP mk113E q1dII m113 false r17.2.2.2.2.2.2.2)], .bool r17.1, [2001, 2002, 2003, 2004, 2005, 2006, 2007], [], []⟩)] ⟨69, [(68, .bool (!r17.1))], [(2000, .cells 115 (f43z0)), (2001, bP (V.int .i64) 0 m108 [] r17.2.1), (2002, bP (V.int .i64) 0 m109 false r17.2.2.1), (2003, bP mk110E q1dII m110 [] r17.2.2.2.1), (2004, bP (V.int .i64) 0 m111 0 r17.2.2.2.2.1), (2005, bP mk110E q1dII m110 [] r17.2.2.2.2.2.1), (2006, bP mk112E q1dIIS m112 false r17.2.2.2.2.2.2.1), (2007, bP mk113E q1dII m113 false r17.2.2.2.2.2.2.2)], [2000], 0⟩ (an5 (And.intro (cpC fun hc => (f57_ok _ _ _ _ _ _ _ _ (hr16 hc))) (an1 ob22)) ob23 (show ((.bool ((x2 == (2 : Int)) && r16)) : V) = (.bool true) from (congrArg (fun x => ((.bool x) : V)) hg8_7)) (And.intro (cpT (f66_ok _ _ _ _ _ _ _ _ _ _ _ _ _ _ _ hr17)) (an2 ob24 ob25)) ob26) ?_
        refine thenQ_normal ?_
        refine AWp.cond (b := (!r17.1)) (by kernel_rfl) (fun hc8 => ?_) (fun hc8 => ?_)
        ·
          replace h := ite_tb hc8 h
          refine q1rq [] [] ⟨69, [(4, .i (3 : Int))], [(2000, .cells 115 (f43z0)), (2001, bP (V.int .i64) 0 m108 [] r17.2.1), (2002, bP (V.int .i64) 0 m109 false r17.2.2.1), (2003, bP mk110E q1dII m110 [] r17.2.2.2.1), (2004, bP (V.int .i64) 0 m111 0 r17.2.2.2.2.1), (2005, bP mk110E q1dII m110 [] r17.2.2.2.2.2.1), (2006, bP mk112E q1dIIS m112 false r17.2.2.2.2.2.2.1), (2007, bP mk113E q1dII m113 false r17.2.2.2.2.2.2.2)], [2000], 0⟩ trivial ?_
          have hret := Option.some.inj h
          subst hret
          refine AWp.le (Le.mk (s' := ⟨69, [(4, .i (3 : Int))], [(2000, .cells 115 (f43z0)), (2001, bP (V.int .i64) 0 m108 [] r17.2.1), (2002, bP (V.int .i64) 0 m109 false r17.2.2.1), (2003, bP mk110E q1dII m110 [] r17.2.2.2.1), (2004, bP (V.int .i64) 0 m111 0 r17.2.2.2.2.1), (2005, bP mk110E q1dII m110 [] r17.2.2.2.2.2.1), (2006, bP mk112E q1dIIS m112 false r17.2.2.2.2.2.2.1), (2007, bP mk113E q1dII m113 false r17.2.2.2.2.2.2.2)], [2000], 0⟩) rfl rfl ⟨.refl _, trivial⟩ ⟨⟨_, rfl, .refl _⟩, ⟨_, rfl, .refl _⟩, ⟨_, rfl, .refl _⟩, ⟨_, rfl, .refl _⟩, ⟨_, rfl, .refl _⟩, ⟨_, rfl, .refl _⟩, ⟨_, rfl, .refl _⟩, ⟨_, rfl, .refl _⟩, trivial⟩) ?_
          refine AWp.ret ?_
          refine joinQ_ret ?_
          exact bodyQ_ret _ rfl ⟨rfl, rfl⟩ rfl
        ·
          replace h := ite_fb hc8 h
          refine AWp.skip ?_
          exact joinQ_normal (r17.2.1, r17.2.2.1, r17.2.2.2.1, r17.2.2.2.2.1, r17.2.2.2.2.2.1, r17.2.2.2.2.2.2.1, r17.2.2.2.2.2.2.2) (Le.mk rfl rfl trivial ⟨⟨_, rfl, .refl _⟩, ⟨_, rfl, .refl _⟩, ⟨_, rfl, .refl _⟩, ⟨_, rfl, .refl _⟩, ⟨_, rfl, .refl _⟩, ⟨_, rfl, .refl _⟩, ⟨_, rfl, .refl _⟩, ⟨_, rfl, .refl _⟩, trivial⟩) h
      ·
        replace h := ite_f hg8_7 h
        have ob22 := idA (((x2 == (2 : Int)) == true) = true)
        have ob23 := bqA (x2 == (2 : Int)) true
        have ob24 := idA (false = true)
        have ob25 := idA (false = true)
        have ob26 := idA (false = true)
        have ob27 : true = true → false = true → false = true := fun _ h => h
        refine q1rr [] [(5, ⟨[.agg [.i x1, .i x2, .i x3, .i x4, .i x5, .str x6, .str x7, .opq, .opq, .opq, .opq, .opq, .opq, .opq, .opq, .opq, .opq, .opq, .opq, .opq, .opq, .opq, .opq, .opq, .opq, .opq, .opq, .opq]], [], [], [], .bool r16, [], [], []⟩), (7, ⟨[], [], [], [], (.bool false), [], [0], []⟩), (10, ⟨[], [], [], [], .bool false, [], [], []⟩)] ⟨69, [(68, .bool false)], [(2000, .cells 115 (f43z0)), (2001, bP (V.int .i64) 0 m108 [] x8), (2002, bP (V.int .i64) 0 m109 false x9), (2003, bP mk110E q1dII m110 [] x10), (2004, bP (V.int .i64) 0 m111 0 x11), (2005, bP mk110E q1dII m110 [] x12), (2006, bP mk112E q1dIIS m112 false x13), (2007, bP mk113E q1dII m113 false x14)], [2000], 0⟩ (an6 (And.intro (cpC fun hc => (f57_ok _ _ _ _ _ _ _ _ (hr16 hc))) (an1 ob22)) ob23 (show ((.bool ((x2 == (2 : Int)) && r16)) : V) = (.bool false) from (congrArg (fun x => ((.bool x) : V)) (Bool.eq_false_iff.2 hg8_7))) (And.intro (show (callP Tryz.prog false 66 [] [] [] [] [] [.ptr 2000 0, .agg [.i x1, .i x2, .i x3, .i x4, .i x5, .str x6, .str x7, .opq, .opq, .opq, .opq, .opq, .opq, .opq, .opq, .opq, .opq, .opq, .opq, .opq, .opq, .opq, .opq, .opq, .opq, .opq, .opq, .opq]] [] (.bool false) []) from ⟨nofun, nofun, .inl rfl⟩) (an2 ob24 ob25)) (an1 ob26) ob27) ?_
        refine thenQ_normal ?_
        refine AWp.cond (b := false) (by kernel_rfl) (fun hc => ?_) (fun hc => ?_)
        ·
          cases hc
        ·
          clear hc
          refine AWp.skip ?_
          exact joinQ_normal (x8, x9, x10, x11, x12, x13, x14) (Le.mk rfl rfl trivial ⟨⟨_, rfl, .refl _⟩, ⟨_, rfl, .refl _⟩, ⟨_, rfl, .refl _⟩, ⟨_, rfl, .refl _⟩, ⟨_, rfl, .refl _⟩, ⟨_, rfl, .refl _⟩, ⟨_, rfl, .refl _⟩, ⟨_, rfl, .refl _⟩, trivial⟩) h
    ·
      rintro ⟨l18, l19, l20, l21, l22, l23, l24⟩ h
      replace h := (congrFun hK3 _).symm.trans h
      refine q1rq [] [] ⟨69, [(4, .i (0 : Int))], [(2000, .cells 115 (f43z0)), (2001, bP (V.int .i64) 0 m108 [] l18), (2002, bP (V.int .i64) 0 m109 false l19), (2003, bP mk110E q1dII m110 [] l20), (2004, bP (V.int .i64) 0 m111 0 l21), (2005, bP mk110E q1dII m110 [] l22), (2006, bP mk112E q1dIIS m112 false l23), (2007, bP mk113E q1dII m113 false l24)], [2000], 0⟩ trivial ?_
      have hret := Option.some.inj h
      subst hret
      refine AWp.le (Le.mk (s' := ⟨69, [(4, .i (0 : Int))], [(2000, .cells 115 (f43z0)), (2001, bP (V.int .i64) 0 m108 [] l18), (2002, bP (V.int .i64) 0 m109 false l19), (2003, bP mk110E q1dII m110 [] l20), (2004, bP (V.int .i64) 0 m111 0 l21), (2005, bP mk110E q1dII m110 [] l22), (2006, bP mk112E q1dIIS m112 false l23), (2007, bP mk113E q1dII m113 false l24)], [2000], 0⟩) rfl rfl ⟨.refl _, trivial⟩ ⟨⟨_, rfl, .refl _⟩, ⟨_, rfl, .refl _⟩, ⟨_, rfl, .refl _⟩, ⟨_, rfl, .refl _⟩, ⟨_, rfl, .refl _⟩, ⟨_, rfl, .refl _⟩, ⟨_, rfl, .refl _⟩, ⟨_, rfl, .refl _⟩, trivial⟩) ?_
      refine AWp.ret ?_
      exact bodyQ_ret _ rfl ⟨rfl, rfl⟩ rfl
abbrev f42z0 : List V := [.own 2001, .own 2002, .own 2003, .own 2004, .own 2005, .own 2006, .own 2007]
def f42 (x1 : Int) (x2 : Int) (x3 : Int) (x4 : Int) (x5 : Int) (x6 : List UInt8) (x7 : List UInt8) (x8 : List (Int × List UInt8)) (x9 : List (Int × Bool)) (x10 : List ((Int × Int) × List UInt8)) (x11 : List (Int × Int)) (x12 : List ((Int × Int) × List UInt8)) (x13 : List ((Int × Int × List UInt8) × Bool)) (x14 : List ((Int × Int) × Bool)) (_x15 : Int) : Option (Bool × (List (Int × List UInt8)) × (List (Int × Bool)) × (List ((Int × Int) × List UInt8)) × (List (Int × Int)) × (List ((Int × Int) × List UInt8)) × (List ((Int × Int × List UInt8) × Bool)) × (List ((Int × Int) × Bool)) × Int) :=
  (f43 x1 x2 x3 x4 x5 x6 x7 x8 x9 x10 x11 x12 x13 x14).bind fun (r16 : Int × (List (Int × List UInt8)) × (List (Int × Bool)) × (List ((Int × Int) × List UInt8)) × (List (Int × Int)) × (List ((Int × Int) × List UInt8)) × (List ((Int × Int × List UInt8) × Bool)) × (List ((Int × Int) × Bool))) =>
  some ((r16.1 != (0 : Int)), r16.2.1, r16.2.2.1, r16.2.2.2.1, r16.2.2.2.2.1, r16.2.2.2.2.2.1, r16.2.2.2.2.2.2.1, r16.2.2.2.2.2.2.2, r16.1)
set_option maxRecDepth 100000 in
theorem f42_ok  (x1 : Int) (x2 : Int) (x3 : Int) (x4 : Int) (x5 : Int) (x6 : List UInt8) (x7 : List UInt8) (x8 : List (Int × List UInt8)) (x9 : List (Int × Bool)) (x10 : List ((Int × Int) × List UInt8)) (x11 : List (Int × Int)) (x12 : List ((Int × Int) × List UInt8)) (x13 : List ((Int × Int × List UInt8) × Bool)) (x14 : List ((Int × Int) × Bool)) (x15 : Int) (r : Bool × (List (Int × List UInt8)) × (List (Int × Bool)) × (List ((Int × Int) × List UInt8)) × (List (Int × Int)) × (List ((Int × Int) × List UInt8)) × (List ((Int × Int × List UInt8) × Bool)) × (List ((Int × Int) × Bool)) × Int) (h : f42 x1 x2 x3 x4 x5 x6 x7 x8 x9 x10 x11 x12 x13 x14 x15 = some r)  : Spec1 Tryz.prog 42 [] [2000, 2008] [(2000, .cells 115 [.own 2001, .own 2002, .own 2003, .own 2004, .own 2005, .own 2006, .own 2007]), (2001, bP (V.int .i64) 0 m108 [] x8), (2002, bP (V.int .i64) 0 m109 false x9), (2003, bP mk110E (default : Int × Int) m110 [] x10), (2004, bP (V.int .i64) 0 m111 0 x11), (2005, bP mk110E (default : Int × Int) m110 [] x12), (2006, bP mk112E (default : Int × Int × List UInt8) m112 false x13), (2007, bP mk113E (default : Int × Int) m113 false x14), (2008, .cells 3 [.int .i64 x15])] [.ptr 2000 0, .agg [.int .i64 x1, .int .i64 x2, .int .i64 x3, .int .i64 x4, .int .i64 x5, .str x6, .str x7, .opq, .opq, .opq, .opq, .opq, .opq, .opq, .opq, .opq, .opq, .opq, .opq, .opq, .opq, .opq, .opq, .opq, .opq, .opq, .opq, .opq], .ptr 2008 0] (.bool r.1) [(2000, .cells 115 [.own 2001, .own 2002, .own 2003, .own 2004, .own 2005, .own 2006, .own 2007]), (2001, bP (V.int .i64) 0 m108 [] r.2.1), (2002, bP (V.int .i64) 0 m109 false r.2.2.1), (2003, bP mk110E (default : Int × Int) m110 [] r.2.2.2.1), (2004, bP (V.int .i64) 0 m111 0 r.2.2.2.2.1), (2005, bP mk110E (default : Int × Int) m110 [] r.2.2.2.2.2.1), (2006, bP mk112E (default : Int × Int × List UInt8) m112 false r.2.2.2.2.2.2.1), (2007, bP mk113E (default : Int × Int) m113 false r.2.2.2.2.2.2.2.1), (2008, .cells 3 [.int .i64 r.2.2.2.2.2.2.2.2])] := by
  unfold f42 at h
  refine Spec1.body 0 _ _ Tryz.func42 rfl Tryz.ntmps42 rfl rfl ?_
  refine q1rq [] [] ⟨11, [(0, .ptr 2000 0), (2, .ptr 2008 0), (4, .ptr 4 0)], [(4, .cells 51 [.i x1, .i x2, .i x3, .i x4, .i x5, .str x6, .str x7, .opq, .opq, .opq, .opq, .opq, .opq, .opq, .opq, .opq, .opq, .opq, .opq, .opq, .opq, .opq, .opq, .opq, .opq, .opq, .opq, .opq]), (2000, .cells 115 (f42z0)), (2001, bP (V.int .i64) 0 m108 [] x8), (2002, bP (V.int .i64) 0 m109 false x9), (2003, bP mk110E q1dII m110 [] x10), (2004, bP (V.int .i64) 0 m111 0 x11), (2005, bP mk110E q1dII m110 [] x12), (2006, bP mk112E q1dIIS m112 false x13), (2007, bP mk113E q1dII m113 false x14), (2008, .cells 3 [.i x15])], [2000, 2008], 0⟩ trivial ?_
  refine AWp.seq ?_
  obtain ⟨r16, hr16, h⟩ := bind_ok h
  refine q1rr [] [(2, ⟨[.ptr 2000 0, .agg [.i x1, .i x2, .i x3, .i x4, .i x5, .str x6, .str x7, .opq, .opq, .opq, .opq, .opq, .opq, .opq, .opq, .opq, .opq, .opq, .opq, .opq, .opq, .opq, .opq, .opq, .opq, .opq, .opq, .opq]], [2000, 2001, 2002, 2003, 2004, 2005, 2006, 2007], [2000], [(2000, .cells 115 (f42z0)), (2001, bP (V.int .i64) 0 m108 [] r16.2.1), (2002, bP (V.int .i64) 0 m109 false r16.2.2.1), (2003, bP mk110E q1dII m110 [] r16.2.2.2.1), (2004, bP (V.int .i64) 0 m111 0 r16.2.2.2.2.1), (2005, bP mk110E q1dII m110 [] r16.2.2.2.2.2.1), (2006, bP mk112E q1dIIS m112 false r16.2.2.2.2.2.2.1), (2007, bP mk113E q1dII m113 false r16.2.2.2.2.2.2.2)], .i r16.1, [2001, 2002, 2003, 2004, 2005, 2006, 2007], [], []⟩)] ⟨11, [(2, .ptr 2008 0)], [(2000, .cells 115 (f42z0)), (2001, bP (V.int .i64) 0 m108 [] r16.2.1), (2002, bP (V.int .i64) 0 m109 false r16.2.2.1), (2003, bP mk110E q1dII m110 [] r16.2.2.2.1), (2004, bP (V.int .i64) 0 m111 0 r16.2.2.2.2.1), (2005, bP mk110E q1dII m110 [] r16.2.2.2.2.2.1), (2006, bP mk112E q1dIIS m112 false r16.2.2.2.2.2.2.1), (2007, bP mk113E q1dII m113 false r16.2.2.2.2.2.2.2), (2008, .cells 3 [.i r16.1])], [2000, 2008], 0⟩ (an2 (cpT (f43_ok _ _ _ _ _ _ _ _ _ _ _ _ _ _ _ hr16)) trivial) ?_
  refine thenQ_normal ?_
  refine q1rq [] [] ⟨11, [(5, .bool (r16.1 != (0 : Int)))], [(2000, .cells 115 (f42z0)), (2001, bP (V.int .i64) 0 m108 [] r16.2.1), (2002, bP (V.int .i64) 0 m109 false r16.2.2.1), (2003, bP mk110E q1dII m110 [] r16.2.2.2.1), (2004, bP (V.int .i64) 0 m111 0 r16.2.2.2.2.1), (2005, bP mk110E q1dII m110 [] r16.2.2.2.2.2.1), (2006, bP mk112E q1dIIS m112 false r16.2.2.2.2.2.2.1), (2007, bP mk113E q1dII m113 false r16.2.2.2.2.2.2.2), (2008, .cells 3 [.i r16.1])], [2000, 2008], 0⟩ trivial ?_
  have hret := Option.some.inj h
  subst hret
  refine AWp.le (Le.mk (s' := ⟨11, [(5, .bool (r16.1 != (0 : Int)))], [(2000, .cells 115 (f42z0)), (2001, bP (V.int .i64) 0 m108 [] r16.2.1), (2002, bP (V.int .i64) 0 m109 false r16.2.2.1), (2003, bP mk110E q1dII m110 [] r16.2.2.2.1), (2004, bP (V.int .i64) 0 m111 0 r16.2.2.2.2.1), (2005, bP mk110E q1dII m110 [] r16.2.2.2.2.2.1), (2006, bP mk112E q1dIIS m112 false r16.2.2.2.2.2.2.1), (2007, bP mk113E q1dII m113 false r16.2.2.2.2.2.2.2), (2008, .cells 3 [.i r16.1])], [2000, 2008], 0⟩) rfl rfl ⟨.refl _, trivial⟩ ⟨⟨_, rfl, .refl _⟩, ⟨_, rfl, .refl _⟩, ⟨_, rfl, .refl _⟩, ⟨_, rfl, .refl _⟩, ⟨_, rfl, .refl _⟩, ⟨_, rfl, .refl _⟩, ⟨_, rfl, .refl _⟩, ⟨_, rfl, .refl _⟩, ⟨_, rfl, .refl _⟩, trivial⟩) ?_
  refine AWp.ret ?_
  exact bodyQ_ret _ rfl ⟨rfl, rfl⟩ rfl
abbrev f45z0 : List V := [.own 2001, .own 2002, .own 2003, .own 2004, .own 2005, .own 2006, .own 2007]
abbrev f45z1 : List (Nat × V) := [(0, .ptr 2000 0), (3, .ptr 3 0)]
abbrev f45z2 (r15 : Int × Bool) : List (Nat × V) := [(0, .ptr 2000 0), (3, .ptr 3 0), (4, .int .i64 r15.1)]
abbrev f45z3 (x3 : Int) (x5 : Int) : List V := [.int .i64 x3, .int .i64 x5]
def f45 (x1 : Int) (x2 : Int) (x3 : Int) (x4 : Int) (x5 : Int) (x6 : List UInt8) (x7 : List UInt8) (x8 : List (Int × List UInt8)) (x9 : List (Int × Bool)) (x10 : List ((Int × Int) × List UInt8)) (x11 : List (Int × Int)) (x12 : List ((Int × Int) × List UInt8)) (x13 : List ((Int × Int × List UInt8) × Bool)) (x14 : List ((Int × Int) × Bool)) : Option ((List (Int × List UInt8)) × (List (Int × Bool)) × (List ((Int × Int) × List UInt8)) × (List (Int × Int)) × (List ((Int × Int) × List UInt8)) × (List ((Int × Int × List UInt8) × Bool)) × (List ((Int × Int) × Bool))) :=
  jn (fun ((l19, l20, l21, l22) : (List (Int × List UInt8)) × (List (Int × Bool)) × (List ((Int × Int) × List UInt8)) × (List (Int × Int))) =>
  optc ((x2 == (1 : Int)) == true) (f57 x1 x2 x3 x4 x5 x6 x7) fun (r23 : Bool) =>
  if ((x2 == (1 : Int)) && r23) then (
  if (!(hM x12 (x3, x5))) then (
  some (l19, l20, l21, l22, (updM x12 (x3, x5) x6), (updM x13 (x3, x5, x6) true), x14)
  ) else (
  some (l19, l20, l21, l22, x12, (updM x13 (x3, x5, x6) true), x14)
  )
  ) else (
  optc ((x2 == (2 : Int)) == true) (f57 x1 x2 x3 x4 x5 x6 x7) fun (r24 : Bool) =>
  if ((x2 == (2 : Int)) && r24) then (
  some (l19, l20, l21, l22, x12, x13, (updM x14 (x3, x5) true))
  ) else (
  some (l19, l20, l21, l22, x12, x13, x14)
  )
  )
  ) fun (K1 : ((List (Int × List UInt8)) × (List (Int × Bool)) × (List ((Int × Int) × List UInt8)) × (List (Int × Int))) → Option ((List (Int × List UInt8)) × (List (Int × Bool)) × (List ((Int × Int) × List UInt8)) × (List (Int × Int)) × (List ((Int × Int) × List UInt8)) × (List ((Int × Int × List UInt8) × Bool)) × (List ((Int × Int) × Bool)))) =>
  (f50 x1 x2 x3 x4 x5 x6 x7).bind fun (r15 : Int × Bool) =>
  if r15.2 then (
  jn (fun ((l16, l17) : (List (Int × List UInt8)) × (List (Int × Bool))) =>
  jn (fun (l18 : List ((Int × Int) × List UInt8)) =>
  if (x2 == (3 : Int)) then (
  chk (-9223372036854775808 ≤ ((gM x11 (0 : Int) x3) + (1 : Int)) ∧ ((gM x11 (0 : Int) x3) + (1 : Int)) ≤ 9223372036854775807) <|
  K1 (l16, l17, l18, (updM x11 x3 ((gM x11 (0 : Int) x3) + (1 : Int))))
  ) else (
  K1 (l16, l17, l18, x11)
  )
  ) fun (K3 : (List ((Int × Int) × List UInt8)) → Option ((List (Int × List UInt8)) × (List (Int × Bool)) × (List ((Int × Int) × List UInt8)) × (List (Int × Int)) × (List ((Int × Int) × List UInt8)) × (List ((Int × Int × List UInt8) × Bool)) × (List ((Int × Int) × Bool)))) =>
  if (!(hM x10 (r15.1, x4))) then (
  K3 (updM x10 (r15.1, x4) x6)
  ) else (
  K3 x10
  )
  ) fun (K2 : ((List (Int × List UInt8)) × (List (Int × Bool))) → Option ((List (Int × List UInt8)) × (List (Int × Bool)) × (List ((Int × Int) × List UInt8)) × (List (Int × Int)) × (List ((Int × Int) × List UInt8)) × (List ((Int × Int × List UInt8) × Bool)) × (List ((Int × Int) × Bool)))) =>
  if (!(hM x8 x4)) then (
  K2 ((updM x8 x4 x6), x9)
  ) else (
  if (!((gM x8 [] x4) == x6)) then (
  K2 (x8, (updM x9 x4 true))
  ) else (
  K2 (x8, x9)
  )
  )
  ) else (
  K1 (x8, x9, x10, x11)
  )
set_option maxRecDepth 100000 in
theorem f45_ok  (x1 : Int) (x2 : Int) (x3 : Int) (x4 : Int) (x5 : Int) (x6 : List UInt8) (x7 : List UInt8) (x8 : List (Int × List UInt8)) (x9 : List (Int × Bool)) (x10 : List ((Int × Int) × List UInt8)) (x11 : List (Int × Int)) (x12 : List ((Int × Int) × List UInt8)) (x13 : List ((Int × Int × List UInt8) × Bool)) (x14 : List ((Int × Int) × Bool)) (r : (List (Int × List UInt8)) × (List (Int × Bool)) × (List ((Int × Int) × List UInt8)) × (List (Int × Int)) × (List ((Int × Int) × List UInt8)) × (List ((Int × Int × List UInt8) × Bool)) × (List ((Int × Int) × Bool))) (h : f45 x1 x2 x3 x4 x5 x6 x7 x8 x9 x10 x11 x12 x13 x14 = some r)  : Spec1 Tryz.prog 45 [] [2000] [(2000, .cells 115 [.own 2001, .own 2002, .own 2003, .own 2004, .own 2005, .own 2006, .own 2007]), (2001, bP (V.int .i64) 0 m108 [] x8), (2002, bP (V.int .i64) 0 m109 false x9), (2003, bP mk110E (default : Int × Int) m110 [] x10), (2004, bP (V.int .i64) 0 m111 0 x11), (2005, bP mk110E (default : Int × Int) m110 [] x12), (2006, bP mk112E (default : Int × Int × List UInt8) m112 false x13), (2007, bP mk113E (default : Int × Int) m113 false x14)] [.ptr 2000 0, .agg [.int .i64 x1, .int .i64 x2, .int .i64 x3, .int .i64 x4, .int .i64 x5, .str x6, .str x7, .opq, .opq, .opq, .opq, .opq, .opq, .opq, .opq, .opq, .opq, .opq, .opq, .opq, .opq, .opq, .opq, .opq, .opq, .opq, .opq, .opq]] (.tup []) [(2000, .cells 115 [.own 2001, .own 2002, .own 2003, .own 2004, .own 2005, .own 2006, .own 2007]), (2001, bP (V.int .i64) 0 m108 [] r.1), (2002, bP (V.int .i64) 0 m109 false r.2.1), (2003, bP mk110E (default : Int × Int) m110 [] r.2.2.1), (2004, bP (V.int .i64) 0 m111 0 r.2.2.2.1), (2005, bP mk110E (default : Int × Int) m110 [] r.2.2.2.2.1), (2006, bP mk112E (default : Int × Int × List UInt8) m112 false r.2.2.2.2.2.1), (2007, bP mk113E (default : Int × Int) m113 false r.2.2.2.2.2.2)] := by
  unfold f45 at h
  refine Spec1.body 0 _ _ Tryz.func45 rfl Tryz.ntmps45 rfl rfl ?_
  refine q1rq [] [] ⟨139, (f45z1), [(3, .cells 51 [.i x1, .i x2, .i x3, .i x4, .i x5, .str x6, .str x7, .opq, .opq, .opq, .opq, .opq, .opq, .opq, .opq, .opq, .opq, .opq, .opq, .opq, .opq, .opq, .opq, .opq, .opq, .opq, .opq, .opq]), (2000, .cells 115 (f45z0)), (2001, bP (V.int .i64) 0 m108 [] x8), (2002, bP (V.int .i64) 0 m109 false x9), (2003, bP mk110E q1dII m110 [] x10), (2004, bP (V.int .i64) 0 m111 0 x11), (2005, bP mk110E q1dII m110 [] x12), (2006, bP mk112E q1dIIS m112 false x13), (2007, bP mk113E q1dII m113 false x14)], [2000], 0⟩ trivial ?_
  obtain ⟨K1, hK1, h⟩ := jn_some h
  refine AWp.join (α := (List (Int × List UInt8)) × (List (Int × Bool)) × (List ((Int × Int) × List UInt8)) × (List (Int × Int))) (fun (x : (List (Int × List UInt8)) × (List (Int × Bool)) × (List ((Int × Int) × List UInt8)) × (List (Int × Int))) => match x with | (l19, l20, l21, l22) => ⟨139, (f45z1), [(3, .cells 51 [.i x1, .i x2, .i x3, .i x4, .i x5, .str x6, .str x7, .opq, .opq, .opq, .opq, .opq, .opq, .opq, .opq, .opq, .opq, .opq, .opq, .opq, .opq, .opq, .opq, .opq, .opq, .opq, .opq, .opq]), (2000, .cells 115 (f45z0)), (2001, bP (V.int .i64) 0 m108 [] l19), (2002, bP (V.int .i64) 0 m109 false l20), (2003, bP mk110E q1dII m110 [] l21), (2004, bP (V.int .i64) 0 m111 0 l22), (2005, bP mk110E q1dII m110 [] x12), (2006, bP mk112E q1dIIS m112 false x13), (2007, bP mk113E q1dII m113 false x14)], [2000], 0⟩) (fun x => K1 x = some r) ?_ ?_
  ·
    refine AWp.seq ?_
    obtain ⟨r15, hr15, h⟩ := bind_ok h
    refine q1rr [] [(1, ⟨[.agg [.i x1, .i x2, .i x3, .i x4, .i x5, .str x6, .str x7, .opq, .opq, .opq, .opq, .opq, .opq, .opq, .opq, .opq, .opq, .opq, .opq, .opq, .opq, .opq, .opq, .opq, .opq, .opq, .opq, .opq]], [], [], [], .tup [.i r15.1, .bool r15.2], [], [], []⟩)] ⟨139, [(0, .ptr 2000 0), (3, .ptr 3 0), (4, .i r15.1), (5, .bool r15.2)], [(3, .cells 51 [.i x1, .i x2, .i x3, .i x4, .i x5, .str x6, .str x7, .opq, .opq, .opq, .opq, .opq, .opq, .opq, .opq, .opq, .opq, .opq, .opq, .opq, .opq, .opq, .opq, .opq, .opq, .opq, .opq, .opq]), (2000, .cells 115 (f45z0)), (2001, bP (V.int .i64) 0 m108 [] x8), (2002, bP (V.int .i64) 0 m109 false x9), (2003, bP mk110E q1dII m110 [] x10), (2004, bP (V.int .i64) 0 m111 0 x11), (2005, bP mk110E q1dII m110 [] x12), (2006, bP mk112E q1dIIS m112 false x13), (2007, bP mk113E q1dII m113 false x14)], [2000], 0⟩ (an1 (cpT (f50_ok _ _ _ _ _ _ _ _ hr15))) ?_
    refine thenQ_normal ?_
    refine q1rq [] [] ⟨139, [(0, .ptr 2000 0), (3, .ptr 3 0), (4, .i r15.1), (18, .bool r15.2)], [(3, .cells 51 [.i x1, .i x2, .i x3, .i x4, .i x5, .str x6, .str x7, .opq, .opq, .opq, .opq, .opq, .opq, .opq, .opq, .opq, .opq, .opq, .opq, .opq, .opq, .opq, .opq, .opq, .opq, .opq, .opq, .opq]), (2000, .cells 115 (f45z0)), (2001, bP (V.int .i64) 0 m108 [] x8), (2002, bP (V.int .i64) 0 m109 false x9), (2003, bP mk110E q1dII m110 [] x10), (2004, bP (V.int .i64) 0 m111 0 x11), (2005, bP mk110E q1dII m110 [] x12), (2006, bP mk112E q1dIIS m112 false x13), (2007, bP mk113E q1dII m113 false x14)], [2000], 0⟩ trivial ?_
    refine AWp.cond (b := r15.2) (by kernel_rfl) (fun hc1 => ?_) (fun hc1 => ?_)
    ·
      replace h := ite_tb hc1 h
      obtain ⟨K2, hK2, h⟩ := jn_some h
      refine AWp.join (α := (List (Int × List UInt8)) × (List (Int × Bool))) (fun (x : (List (Int × List UInt8)) × (List (Int × Bool))) => match x with | (l16, l17) => ⟨139, (f45z2 r15), [(3, .cells 51 [.i x1, .i x2, .i x3, .i x4, .i x5, .str x6, .str x7, .opq, .opq, .opq, .opq, .opq, .opq, .opq, .opq, .opq, .opq, .opq, .opq, .opq, .opq, .opq, .opq, .opq, .opq, .opq, .opq, .opq]), (2000, .cells 115 (f45z0)), (2001, bP (V.int .i64) 0 m108 [] l16), (2002, bP (V.int .i64) 0 m109 false l17), (2003, bP mk110E q1dII m110 [] x10), (2004, bP (V.int .i64) 0 m111 0 x11), (2005, bP mk110E q1dII m110 [] x12), (2006, bP mk112E q1dIIS m112 false x13), (2007, bP mk113E q1dII m113 false x14)], [2000], 0⟩) (fun x => K2 x = some r) ?_ ?_
      ·
        refine q1rq [] [(6, ⟨[.own 2001, .i x4], [2001], [2001], [(2001, bP (V.int .i64) 0 m108 [] x8)], .tup [.str (gM x8 [] x4), .bool (hM x8 x4)], [], [], []⟩)] ⟨139, [(0, .ptr 2000 0), (3, .ptr 3 0), (4, .i r15.1), (6, .str (gM x8 [] x4)), (7, .bool (hM x8 x4))], [(3, .cells 51 [.i x1, .i x2, .i x3, .i x4, .i x5, .str x6, .str x7, .opq, .opq, .opq, .opq, .opq, .opq, .opq, .opq, .opq, .opq, .opq, .opq, .opq, .opq, .opq, .opq, .opq, .opq, .opq, .opq, .opq]), (2000, .cells 115 (f45z0)), (2001, bP (V.int .i64) 0 m108 [] x8), (2002, bP (V.int .i64) 0 m109 false x9), (2003, bP mk110E q1dII m110 [] x10), (2004, bP (V.int .i64) 0 m111 0 x11), (2005, bP mk110E q1dII m110 [] x12), (2006, bP mk112E q1dIIS m112 false x13), (2007, bP mk113E q1dII m113 false x14)], [2000], 0⟩ (an1 (And.intro (lookP_spec (P := Tryz.prog) Tryz.underlying108 (V.int .i64) kE108 0 m108 [] [] (by kernel_rfl) (.tmp 23) (.tmp 25) 118 2001 x8 x4) (VLes.same [.own 2001, .i x4]))) ?_
        refine q1rq [] [] ⟨139, [(0, .ptr 2000 0), (3, .ptr 3 0), (4, .i r15.1), (6, .str (gM x8 [] x4)), (30, .bool (!(hM x8 x4)))], [(3, .cells 51 [.i x1, .i x2, .i x3, .i x4, .i x5, .str x6, .str x7, .opq, .opq, .opq, .opq, .opq, .opq, .opq, .opq, .opq, .opq, .opq, .opq, .opq, .opq, .opq, .opq, .opq, .opq, .opq, .opq, .opq]), (2000, .cells 115 (f45z0)), (2001, bP (V.int .i64) 0 m108 [] x8), (2002, bP (V.int .i64) 0 m109 false x9), (2003, bP mk110E q1dII m110 [] x10), (2004, bP (V.int .i64) 0 m111 0 x11), (2005, bP mk110E q1dII m110 [] x12), (2006, bP mk112E q1dIIS m112 false x13), (2007, bP mk113E q1dII m113 false x14)], [2000], 0⟩ trivial ?_
        refine AWp.cond (b := (!(hM x8 x4))) (by kernel_rfl) (fun hc2 => ?_) (fun hc2 => ?_)
        ·
          replace h := ite_tb hc2 h
          refine q1rr [] [(8, ⟨[.own 2001, .i x4, .str x6], [2001], [2001], [(2001, bP (V.int .i64) 0 m108 [] (updM x8 x4 x6))], .any, [], [], []⟩)] ⟨139, (f45z2 r15), [(3, .cells 51 [.i x1, .i x2, .i x3, .i x4, .i x5, .str x6, .str x7, .opq, .opq, .opq, .opq, .opq, .opq, .opq, .opq, .opq, .opq, .opq, .opq, .opq, .opq, .opq, .opq, .opq, .opq, .opq, .opq, .opq]), (2000, .cells 115 (f45z0)), (2001, bP (V.int .i64) 0 m108 [] (updM x8 x4 x6)), (2002, bP (V.int .i64) 0 m109 false x9), (2003, bP mk110E q1dII m110 [] x10), (2004, bP (V.int .i64) 0 m111 0 x11), (2005, bP mk110E q1dII m110 [] x12), (2006, bP mk112E q1dIIS m112 false x13), (2007, bP mk113E q1dII m113 false x14)], [2000], 0⟩ (an1 (And.intro (updP_spec Tryz.underlying108 (V.int .i64) kE108 (.mapUpdate 108 (.tmp 34) (.tmp 36) (.tmp 38)) (.tmp 34) (.tmp 36) (.tmp 38) (.inr rfl) 0 m108 [] (fun _ => rfl) 0 2001 x8 x4 x6) (VLes.same [.own 2001, .i x4, .str x6]))) ?_
          exact joinQ_normal ((updM x8 x4 x6), x9) (Le.mk rfl rfl ⟨.refl _, .refl _, .refl _, trivial⟩ ⟨⟨_, rfl, .refl _⟩, ⟨_, rfl, .refl _⟩, ⟨_, rfl, .refl _⟩, ⟨_, rfl, .refl _⟩, ⟨_, rfl, .refl _⟩, ⟨_, rfl, .refl _⟩, ⟨_, rfl, .refl _⟩, ⟨_, rfl, .refl _⟩, ⟨_, rfl, .refl _⟩, trivial⟩) h
        ·
          replace h := ite_fb hc2 h
          refine q1rq [] [] ⟨139, [(0, .ptr 2000 0), (3, .ptr 3 0), (4, .i r15.1), (42, .bool (!((gM x8 [] x4) == x6)))], [(3, .cells 51 [.i x1, .i x2, .i x3, .i x4, .i x5, .str x6, .str x7, .opq, .opq, .opq, .opq, .opq, .opq, .opq, .opq, .opq, .opq, .opq, .opq, .opq, .opq, .opq, .opq, .opq, .opq, .opq, .opq, .opq]), (2000, .cells 115 (f45z0)), (2001, bP (V.int .i64) 0 m108 [] x8), (2002, bP (V.int .i64) 0 m109 false x9), (2003, bP mk110E q1dII m110 [] x10), (2004, bP (V.int .i64) 0 m111 0 x11), (2005, bP mk110E q1dII m110 [] x12), (2006, bP mk112E q1dIIS m112 false x13), (2007, bP mk113E q1dII m113 false x14)], [2000], 0⟩ trivial ?_
          refine AWp.cond (b := (!((gM x8 [] x4) == x6))) (by kernel_rfl) (fun hc3 => ?_) (fun hc3 => ?_)
          ·
            replace h := ite_tb hc3 h
            refine q1rr [] [(6, ⟨[.own 2002, .i x4, .bool true], [2002], [2002], [(2002, bP (V.int .i64) 0 m109 false (updM x9 x4 true))], .any, [], [], []⟩)] ⟨139, (f45z2 r15), [(3, .cells 51 [.i x1, .i x2, .i x3, .i x4, .i x5, .str x6, .str x7, .opq, .opq, .opq, .opq, .opq, .opq, .opq, .opq, .opq, .opq, .opq, .opq, .opq, .opq, .opq, .opq, .opq, .opq, .opq, .opq, .opq]), (2000, .cells 115 (f45z0)), (2001, bP (V.int .i64) 0 m108 [] x8), (2002, bP (V.int .i64) 0 m109 false (updM x9 x4 true)), (2003, bP mk110E q1dII m110 [] x10), (2004, bP (V.int .i64) 0 m111 0 x11), (2005, bP mk110E q1dII m110 [] x12), (2006, bP mk112E q1dIIS m112 false x13), (2007, bP mk113E q1dII m113 false x14)], [2000], 0⟩ (an1 (And.intro (updP_spec Tryz.underlying109 (V.int .i64) kE109 (.mapUpdate 109 (.tmp 46) (.tmp 48) (.const (.bool true))) (.tmp 46) (.tmp 48) (.const (.bool true)) (.inr rfl) 0 m109 false (fun _ => rfl) 0 2002 x9 x4 true) (VLes.same [.own 2002, .i x4, .bool true]))) ?_
            exact joinQ_normal (x8, (updM x9 x4 true)) (Le.mk rfl rfl ⟨.refl _, .refl _, .refl _, trivial⟩ ⟨⟨_, rfl, .refl _⟩, ⟨_, rfl, .refl _⟩, ⟨_, rfl, .refl _⟩, ⟨_, rfl, .refl _⟩, ⟨_, rfl, .refl _⟩, ⟨_, rfl, .refl _⟩, ⟨_, rfl, .refl _⟩, ⟨_, rfl, .refl _⟩, ⟨_, rfl, .refl _⟩, trivial⟩) h
          ·
            replace h := ite_fb hc3 h
            refine AWp.skip ?_
            exact joinQ_normal (x8, x9) (Le.mk rfl rfl ⟨.refl _, .refl _, .refl _, trivial⟩ ⟨⟨_, rfl, .refl _⟩, ⟨_, rfl, .refl _⟩, ⟨_, rfl, .refl _⟩, ⟨_, rfl, .refl _⟩, ⟨_, rfl, .refl _⟩, ⟨_, rfl, .refl _⟩, ⟨_, rfl, .refl _⟩, ⟨_, rfl, .refl _⟩, ⟨_, rfl, .refl _⟩, trivial⟩) h
      ·
        rintro ⟨l16, l17⟩ h
        replace h := (congrFun hK2 _).symm.trans h
        obtain ⟨K3, hK3, h⟩ := jn_some h
        refine AWp.join (α := List ((Int × Int) × List UInt8)) (fun (l18 : List ((Int × Int) × List UInt8)) => ⟨139, (f45z1), [(3, .cells 51 [.i x1, .i x2, .i x3, .i x4, .i x5, .str x6, .str x7, .opq, .opq, .opq, .opq, .opq, .opq, .opq, .opq, .opq, .opq, .opq, .opq, .opq, .opq, .opq, .opq, .opq, .opq, .opq, .opq, .opq]), (2000, .cells 115 (f45z0)), (2001, bP (V.int .i64) 0 m108 [] l16), (2002, bP (V.int .i64) 0 m109 false l17), (2003, bP mk110E q1dII m110 [] l18), (2004, bP (V.int .i64) 0 m111 0 x11), (2005, bP mk110E q1dII m110 [] x12), (2006, bP mk112E q1dIIS m112 false x13), (2007, bP mk113E q1dII m113 false x14)], [2000], 0⟩) (fun x => K3 x = some r) ?_ ?_
        ·
          refine q1rq [] [(8, ⟨[.own 2003, .agg [.i r15.1, .i x4]], [2003], [2003], [(2003, bP mk110E q1dII m110 [] x10)], .tup [.str (gM x10 [] (r15.1, x4)), .bool (hM x10 (r15.1, x4))], [], [], []⟩)] ⟨139, [(0, .ptr 2000 0), (3, .ptr 3 0), (4, .i r15.1), (9, .bool (hM x10 (r15.1, x4)))], [(3, .cells 51 [.i x1, .i x2, .i x3, .i x4, .i x5, .str x6, .str x7, .opq, .opq, .opq, .opq, .opq, .opq, .opq, .opq, .opq, .opq, .opq, .opq, .opq, .opq, .opq, .opq, .opq, .opq, .opq, .opq, .opq]), (2000, .cells 115 (f45z0)), (2001, bP (V.int .i64) 0 m108 [] l16), (2002, bP (V.int .i64) 0 m109 false l17), (2003, bP mk110E q1dII m110 [] x10), (2004, bP (V.int .i64) 0 m111 0 x11), (2005, bP mk110E q1dII m110 [] x12), (2006, bP mk112E q1dIIS m112 false x13), (2007, bP mk113E q1dII m113 false x14)], [2000], 0⟩ (an1 (And.intro (lookP_spec (P := Tryz.prog) Tryz.underlying110 mk110E kE110 q1dII m110 [] [] (by kernel_rfl) (.tmp 53) (.tmp 57) 118 2003 x10 (r15.1, x4)) (VLes.same [.own 2003, .agg [.i r15.1, .i x4]]))) ?_
          refine q1rq [] [] ⟨139, [(0, .ptr 2000 0), (3, .ptr 3 0), (4, .i r15.1), (62, .bool (!(hM x10 (r15.1, x4))))], [(3, .cells 51 [.i x1, .i x2, .i x3, .i x4, .i x5, .str x6, .str x7, .opq, .opq, .opq, .opq, .opq, .opq, .opq, .opq, .opq, .opq, .opq, .opq, .opq, .opq, .opq, .opq, .opq, .opq, .opq, .opq, .opq]), (2000, .cells 115 (f45z0)), (2001, bP (V.int .i64) 0 m108 [] l16), (2002, bP (V.int .i64) 0 m109 false l17), (2003, bP mk110E q1dII m110 [] x10), (2004, bP (V.int .i64) 0 m111 0 x11), (2005, bP mk110E q1dII m110 [] x12), (2006, bP mk112E q1dIIS m112 false x13), (2007, bP mk113E q1dII m113 false x14)], [2000], 0⟩ trivial ?_
          refine AWp.cond (b := (!(hM x10 (r15.1, x4)))) (by kernel_rfl) (fun hc4 => ?_) (fun hc4 => ?_)
          ·
            replace h := ite_tb hc4 h
            refine q1rr [] [(10, ⟨[.own 2003, .agg [.i r15.1, .i x4], .str x6], [2003], [2003], [(2003, bP mk110E q1dII m110 [] (updM x10 (r15.1, x4) x6))], .any, [], [], []⟩)] ⟨139, (f45z1), [(3, .cells 51 [.i x1, .i x2, .i x3, .i x4, .i x5, .str x6, .str x7, .opq, .opq, .opq, .opq, .opq, .opq, .opq, .opq, .opq, .opq, .opq, .opq, .opq, .opq, .opq, .opq, .opq, .opq, .opq, .opq, .opq]), (2000, .cells 115 (f45z0)), (2001, bP (V.int .i64) 0 m108 [] l16), (2002, bP (V.int .i64) 0 m109 false l17), (2003, bP mk110E q1dII m110 [] (updM x10 (r15.1, x4) x6)), (2004, bP (V.int .i64) 0 m111 0 x11), (2005, bP mk110E q1dII m110 [] x12), (2006, bP mk112E q1dIIS m112 false x13), (2007, bP mk113E q1dII m113 false x14)], [2000], 0⟩ (an1 (And.intro (updP_spec Tryz.underlying110 mk110E kE110 (.mapUpdate 110 (.tmp 66) (.tmp 70) (.tmp 72)) (.tmp 66) (.tmp 70) (.tmp 72) (.inr rfl) q1dII m110 [] (fun _ => rfl) 0 2003 x10 (r15.1, x4) x6) (VLes.same [.own 2003, .agg [.i r15.1, .i x4], .str x6]))) ?_
            exact joinQ_normal ((updM x10 (r15.1, x4) x6)) (Le.mk rfl rfl ⟨.refl _, .refl _, trivial⟩ ⟨⟨_, rfl, .refl _⟩, ⟨_, rfl, .refl _⟩, ⟨_, rfl, .refl _⟩, ⟨_, rfl, .refl _⟩, ⟨_, rfl, .refl _⟩, ⟨_, rfl, .refl _⟩, ⟨_, rfl, .refl _⟩, ⟨_, rfl, .refl _⟩, ⟨_, rfl, .refl _⟩, trivial⟩) h
          ·
            replace h := ite_fb hc4 h
            refine AWp.skip ?_
            exact joinQ_normal (x10) (Le.mk rfl rfl ⟨.refl _, .refl _, trivial⟩ ⟨⟨_, rfl, .refl _⟩, ⟨_, rfl, .refl _⟩, ⟨_, rfl, .refl _⟩, ⟨_, rfl, .refl _⟩, ⟨_, rfl, .refl _⟩, ⟨_, rfl, .refl _⟩, ⟨_, rfl, .refl _⟩, ⟨_, rfl, .refl _⟩, ⟨_, rfl, .refl _⟩, trivial⟩) h
        ·
          rintro l18 h
          replace h := (congrFun hK3 _).symm.trans h
          refine q1rq [] [] ⟨139, [(0, .ptr 2000 0), (3, .ptr 3 0), (75, .bool (x2 == (3 : Int)))], [(3, .cells 51 [.i x1, .i x2, .i x3, .i x4, .i x5, .str x6, .str x7, .opq, .opq, .opq, .opq, .opq, .opq, .opq, .opq, .opq, .opq, .opq, .opq, .opq, .opq, .opq, .opq, .opq, .opq, .opq, .opq, .opq]), (2000, .cells 115 (f45z0)), (2001, bP (V.int .i64) 0 m108 [] l16), (2002, bP (V.int .i64) 0 m109 false l17), (2003, bP mk110E q1dII m110 [] l18), (2004, bP (V.int .i64) 0 m111 0 x11), (2005, bP mk110E q1dII m110 [] x12), (2006, bP mk112E q1dIIS m112 false x13), (2007, bP mk113E q1dII m113 false x14)], [2000], 0⟩ trivial ?_
          refine AWp.cond (b := (x2 == (3 : Int))) (by kernel_rfl) (fun hc5 => ?_) (fun hc5 => ?_)
          ·
            replace h := ite_tb hc5 h
            obtain ⟨ob0, h⟩ := chk_some h
            refine q1rr [] [(6, ⟨[.own 2004, .i x3], [2004], [2004], [(2004, bP (V.int .i64) 0 m111 0 x11)], .i (gM x11 (0 : Int) x3), [], [], []⟩), (8, ⟨[.own 2004, .i x3, .i ((gM x11 (0 : Int) x3) + (1 : Int))], [2004], [2004], [(2004, bP (V.int .i64) 0 m111 0 (updM x11 x3 ((gM x11 (0 : Int) x3) + (1 : Int))))], .any, [], [], []⟩)] ⟨139, (f45z1), [(3, .cells 51 [.i x1, .i x2, .i x3, .i x4, .i x5, .str x6, .str x7, .opq, .opq, .opq, .opq, .opq, .opq, .opq, .opq, .opq, .opq, .opq, .opq, .opq, .opq, .opq, .opq, .opq, .opq, .opq, .opq, .opq]), (2000, .cells 115 (f45z0)), (2001, bP (V.int .i64) 0 m108 [] l16), (2002, bP (V.int .i64) 0 m109 false l17), (2003, bP mk110E q1dII m110 [] l18), (2004, bP (V.int .i64) 0 m111 0 (updM x11 x3 ((gM x11 (0 : Int) x3) + (1 : Int)))), (2005, bP mk110E q1dII m110 [] x12), (2006, bP mk112E q1dIIS m112 false x13), (2007, bP mk113E q1dII m113 false x14)], [2000], 0⟩ (an3 (And.intro (lookP1_spec (P := Tryz.prog) Tryz.underlying111 (V.int .i64) kE111 0 m111 0 (0 : Int) (by kernel_rfl) (.tmp 79) (.tmp 81) 3 2004 x11 x3) (VLes.same [.own 2004, .i x3])) ob0 (And.intro (updP_spec Tryz.underlying111 (V.int .i64) kE111 (.mapUpdate 111 (.tmp 79) (.tmp 81) (.tmp 83)) (.tmp 79) (.tmp 81) (.tmp 83) (.inr rfl) 0 m111 0 (fun _ => rfl) 0 2004 x11 x3 ((gM x11 (0 : Int) x3) + (1 : Int))) (VLes.same [.own 2004, .i x3, .i ((gM x11 (0 : Int) x3) + (1 : Int))]))) ?_
            exact joinQ_normal (l16, l17, l18, (updM x11 x3 ((gM x11 (0 : Int) x3) + (1 : Int)))) (Le.mk rfl rfl ⟨.refl _, .refl _, trivial⟩ ⟨⟨_, rfl, .refl _⟩, ⟨_, rfl, .refl _⟩, ⟨_, rfl, .refl _⟩, ⟨_, rfl, .refl _⟩, ⟨_, rfl, .refl _⟩, ⟨_, rfl, .refl _⟩, ⟨_, rfl, .refl _⟩, ⟨_, rfl, .refl _⟩, ⟨_, rfl, .refl _⟩, trivial⟩) h
          ·
            replace h := ite_fb hc5 h
            refine AWp.skip ?_
            exact joinQ_normal (l16, l17, l18, x11) (Le.mk rfl rfl ⟨.refl _, .refl _, trivial⟩ ⟨⟨_, rfl, .refl _⟩, ⟨_, rfl, .refl _⟩, ⟨_, rfl, .refl _⟩, ⟨_, rfl, .refl _⟩, ⟨_, rfl, .refl _⟩, ⟨_, rfl, .refl _⟩, ⟨_, rfl, .refl _⟩, ⟨_, rfl, .refl _⟩, ⟨_, rfl, .refl _⟩, trivial⟩) h
    ·
      replace h := ite_fb hc1 h
      refine AWp.skip ?_
      exact joinQ_normal (x8, x9, x10, x11) (Le.mk rfl rfl ⟨.refl _, .refl _, trivial⟩ ⟨⟨_, rfl, .refl _⟩, ⟨_, rfl, .refl _⟩, ⟨_, rfl, .refl _⟩, ⟨_, rfl, .refl _⟩, ⟨_, rfl, .refl _⟩, ⟨_, rfl, .refl _⟩, ⟨_, rfl, .refl _⟩, ⟨_, rfl, .refl _⟩, ⟨_, rfl, .refl _⟩, trivial⟩) h
  ·
    rintro ⟨l19, l20, l21, l22⟩ h
    replace h := (congrFun hK1 _).symm.trans h
    refine q1rq [] [] ⟨139, [(0, .ptr 2000 0), (3, .ptr 3 0), (10, .ptr 10 0)], [(3, .cells 51 [.i x1, .i x2, .i x3, .i x4, .i x5, .str x6, .str x7, .opq, .opq, .opq, .opq, .opq, .opq, .opq, .opq, .opq, .opq, .opq, .opq, .opq, .opq, .opq, .opq, .opq, .opq, .opq, .opq, .opq]), (10, .cells 145 (f45z3 x3 x5)), (2000, .cells 115 (f45z0)), (2001, bP (V.int .i64) 0 m108 [] l19), (2002, bP (V.int .i64) 0 m109 false l20), (2003, bP mk110E q1dII m110 [] l21), (2004, bP (V.int .i64) 0 m111 0 l22), (2005, bP mk110E q1dII m110 [] x12), (2006, bP mk112E q1dIIS m112 false x13), (2007, bP mk113E q1dII m113 false x14)], [2000], 0⟩ (an1 trivial) ?_
    refine AWp.block ?_
    refine AWp.seq ?_
    obtain ⟨r23, hr23, h⟩ := optc_some h
    have ob1 := idA (((x2 == (1 : Int)) == true) = true)
    have ob2 := bqA (x2 == (1 : Int)) true
    refine q1rr [] [(5, ⟨[.agg [.i x1, .i x2, .i x3, .i x4, .i x5, .str x6, .str x7, .opq, .opq, .opq, .opq, .opq, .opq, .opq, .opq, .opq, .opq, .opq, .opq, .opq, .opq, .opq, .opq, .opq, .opq, .opq, .opq, .opq]], [], [], [], .bool r23, [], [], []⟩)] ⟨139, [(0, .ptr 2000 0), (3, .ptr 3 0), (10, .ptr 10 0), (89, .bool ((x2 == (1 : Int)) && r23))], [(3, .cells 51 [.i x1, .i x2, .i x3, .i x4, .i x5, .str x6, .str x7, .opq, .opq, .opq, .opq, .opq, .opq, .opq, .opq, .opq, .opq, .opq, .opq, .opq, .opq, .opq, .opq, .opq, .opq, .opq, .opq, .opq]), (10, .cells 145 (f45z3 x3 x5)), (2000, .cells 115 (f45z0)), (2001, bP (V.int .i64) 0 m108 [] l19), (2002, bP (V.int .i64) 0 m109 false l20), (2003, bP mk110E q1dII m110 [] l21), (2004, bP (V.int .i64) 0 m111 0 l22), (2005, bP mk110E q1dII m110 [] x12), (2006, bP mk112E q1dIIS m112 false x13), (2007, bP mk113E q1dII m113 false x14)], [2000], 0⟩ (an2 (And.intro (cpC fun hc => (f57_ok _ _ _ _ _ _ _ _ (hr23 hc))) (an1 ob1)) ob2) ?_
    refine thenQ_normal ?_
    refine AWp.cond (b := ((x2 == (1 : Int)) && r23)) (by kernel_rfl) (fun hc6 => ?_) (fun hc6 => ?_)
    ·
      replace h := ite_tb hc6 h
      refine q1rq [] [(11, ⟨[.own 2006, .agg [.i x3, .i x5, .str x6], .bool true], [2006], [2006], [(2006, bP mk112E q1dIIS m112 false (updM x13 (x3, x5, x6) true))], .any, [], [], []⟩)] ⟨139, [(0, .ptr 2000 0), (3, .ptr 3 0), (10, .ptr 10 0)], [(3, .cells 51 [.i x1, .i x2, .i x3, .i x4, .i x5, .str x6, .str x7, .opq, .opq, .opq, .opq, .opq, .opq, .opq, .opq, .opq, .opq, .opq, .opq, .opq, .opq, .opq, .opq, .opq, .opq, .opq, .opq, .opq]), (10, .cells 145 (f45z3 x3 x5)), (2000, .cells 115 (f45z0)), (2001, bP (V.int .i64) 0 m108 [] l19), (2002, bP (V.int .i64) 0 m109 false l20), (2003, bP mk110E q1dII m110 [] l21), (2004, bP (V.int .i64) 0 m111 0 l22), (2005, bP mk110E q1dII m110 [] x12), (2006, bP mk112E q1dIIS m112 false (updM x13 (x3, x5, x6) true)), (2007, bP mk113E q1dII m113 false x14)], [2000], 0⟩ (an1 (And.intro (updP_spec Tryz.underlying112 mk112E kE112 (.mapUpdate 112 (.tmp 100) (.tmp 107) (.const (.bool true))) (.tmp 100) (.tmp 107) (.const (.bool true)) (.inr rfl) q1dIIS m112 false (fun _ => rfl) 0 2006 x13 (x3, x5, x6) true) (VLes.same [.own 2006, .agg [.i x3, .i x5, .str x6], .bool true]))) ?_
      refine q1rq [] [(5, ⟨[.own 2005, .agg (f45z3 x3 x5)], [2005], [2005], [(2005, bP mk110E q1dII m110 [] x12)], .tup [.str (gM x12 [] (x3, x5)), .bool (hM x12 (x3, x5))], [], [], []⟩)] ⟨139, [(0, .ptr 2000 0), (3, .ptr 3 0), (10, .ptr 10 0), (12, .bool (hM x12 (x3, x5)))], [(3, .cells 51 [.i x1, .i x2, .i x3, .i x4, .i x5, .str x6, .str x7, .opq, .opq, .opq, .opq, .opq, .opq, .opq, .opq, .opq, .opq, .opq, .opq, .opq, .opq, .opq, .opq, .opq, .opq, .opq, .opq, .opq]), (10, .cells 145 (f45z3 x3 x5)), (2000, .cells 115 (f45z0)), (2001, bP (V.int .i64) 0 m108 [] l19), (2002, bP (V.int .i64) 0 m109 false l20), (2003, bP mk110E q1dII m110 [] l21), (2004, bP (V.int .i64) 0 m111 0 l22), (2005, bP mk110E q1dII m110 [] x12), (2006, bP mk112E q1dIIS m112 false (updM x13 (x3, x5, x6) true)), (2007, bP mk113E q1dII m113 false x14)], [2000], 0⟩ (an1 (And.intro (lookP_spec (P := Tryz.prog) Tryz.underlying110 mk110E kE110 q1dII m110 [] [] (by kernel_rfl) (.tmp 112) (.tmp 113) 118 2005 x12 (x3, x5)) (VLes.same [.own 2005, .agg (f45z3 x3 x5)]))) ?_
      refine q1rq [] [] ⟨139, [(0, .ptr 2000 0), (3, .ptr 3 0), (10, .ptr 10 0), (118, .bool (!(hM x12 (x3, x5))))], [(3, .cells 51 [.i x1, .i x2, .i x3, .i x4, .i x5, .str x6, .str x7, .opq, .opq, .opq, .opq, .opq, .opq, .opq, .opq, .opq, .opq, .opq, .opq, .opq, .opq, .opq, .opq, .opq, .opq, .opq, .opq, .opq]), (10, .cells 145 (f45z3 x3 x5)), (2000, .cells 115 (f45z0)), (2001, bP (V.int .i64) 0 m108 [] l19), (2002, bP (V.int .i64) 0 m109 false l20), (2003, bP mk110E q1dII m110 [] l21), (2004, bP (V.int .i64) 0 m111 0 l22), (2005, bP mk110E q1dII m110 [] x12), (2006, bP mk112E q1dIIS m112 false (updM x13 (x3, x5, x6) true)), (2007, bP mk113E q1dII m113 false x14)], [2000], 0⟩ trivial ?_
      refine AWp.cond (b := (!(hM x12 (x3, x5)))) (by kernel_rfl) (fun hc7 => ?_) (fun hc7 => ?_)
      ·
        replace h := ite_tb hc7 h
        refine q1rr [] [(7, ⟨[.own 2005, .agg (f45z3 x3 x5), .str x6], [2005], [2005], [(2005, bP mk110E q1dII m110 [] (updM x12 (x3, x5) x6))], .any, [], [], []⟩)] ⟨139, [], [(2000, .cells 115 (f45z0)), (2001, bP (V.int .i64) 0 m108 [] l19), (2002, bP (V.int .i64) 0 m109 false l20), (2003, bP mk110E q1dII m110 [] l21), (2004, bP (V.int .i64) 0 m111 0 l22), (2005, bP mk110E q1dII m110 [] (updM x12 (x3, x5) x6)), (2006, bP mk112E q1dIIS m112 false (updM x13 (x3, x5, x6) true)), (2007, bP mk113E q1dII m113 false x14)], [2000], 0⟩ (an1 (And.intro (updP_spec Tryz.underlying110 mk110E kE110 (.mapUpdate 110 (.tmp 122) (.tmp 123) (.tmp 125)) (.tmp 122) (.tmp 123) (.tmp 125) (.inr rfl) q1dII m110 [] (fun _ => rfl) 0 2005 x12 (x3, x5) x6) (VLes.same [.own 2005, .agg (f45z3 x3 x5), .str x6]))) ?_
        refine blockQ_normal ?_
        have hret := Option.some.inj h
        subst hret
        exact bodyQ_le (Le.mk (s' := ⟨139, [], [(2000, .cells 115 (f45z0)), (2001, bP (V.int .i64) 0 m108 [] l19), (2002, bP (V.int .i64) 0 m109 false l20), (2003, bP mk110E q1dII m110 [] l21), (2004, bP (V.int .i64) 0 m111 0 l22), (2005, bP mk110E q1dII m110 [] (updM x12 (x3, x5) x6)), (2006, bP mk112E q1dIIS m112 false (updM x13 (x3, x5, x6) true)), (2007, bP mk113E q1dII m113 false x14)], [2000], 0⟩) rfl rfl trivial ⟨⟨_, rfl, .refl _⟩, ⟨_, rfl, .refl _⟩, ⟨_, rfl, .refl _⟩, ⟨_, rfl, .refl _⟩, ⟨_, rfl, .refl _⟩, ⟨_, rfl, .refl _⟩, ⟨_, rfl, .refl _⟩, ⟨_, rfl, .refl _⟩, trivial⟩) (bodyQ_normal _ rfl ⟨rfl, rfl⟩ rfl)
      ·
        replace h := ite_fb hc7 h
        refine AWp.skip ?_
        refine blockQ_normal ?_
        have hret := Option.some.inj h
        subst hret
        exact bodyQ_le (Le.mk (s' := ⟨139, [], [(2000, .cells 115 (f45z0)), (2001, bP (V.int .i64) 0 m108 [] l19), (2002, bP (V.int .i64) 0 m109 false l20), (2003, bP mk110E q1dII m110 [] l21), (2004, bP (V.int .i64) 0 m111 0 l22), (2005, bP mk110E q1dII m110 [] x12), (2006, bP mk112E q1dIIS m112 false (updM x13 (x3, x5, x6) true)), (2007, bP mk113E q1dII m113 false x14)], [2000], 0⟩) rfl rfl trivial ⟨⟨_, rfl, .refl _⟩, ⟨_, rfl, .refl _⟩, ⟨_, rfl, .refl _⟩, ⟨_, rfl, .refl _⟩, ⟨_, rfl, .refl _⟩, ⟨_, rfl, .refl _⟩, ⟨_, rfl, .refl _⟩, ⟨_, rfl, .refl _⟩, trivial⟩) (bodyQ_normal _ rfl ⟨rfl, rfl⟩ rfl)
    ·
      replace h := ite_fb hc6 h
      refine AWp.seq ?_
      obtain ⟨r24, hr24, h⟩ := optc_some h
      have ob3 := idA (((x2 == (2 : Int)) == true) = true)
      have ob4 := bqA (x2 == (2 : Int)) true
      refine q1rr [] [(5, ⟨[.agg [.i x1, .i x2, .i x3, .i x4, .i x5, .str x6, .str x7, .opq, .opq, .opq, .opq, .opq, .opq, .opq, .opq, .opq, .opq, .opq, .opq, .opq, .opq, .opq, .opq, .opq, .opq, .opq, .opq, .opq]], [], [], [], .bool r24, [], [], []⟩)] ⟨139, [(0, .ptr 2000 0), (10, .ptr 10 0), (126, .bool ((x2 == (2 : Int)) && r24))], [(10, .cells 145 (f45z3 x3 x5)), (2000, .cells 115 (f45z0)), (2001, bP (V.int .i64) 0 m108 [] l19), (2002, bP (V.int .i64) 0 m109 false l20), (2003, bP mk110E q1dII m110 [] l21), (2004, bP (V.int .i64) 0 m111 0 l22), (2005, bP mk110E q1dII m110 [] x12), (2006, bP mk112E q1dIIS m112 false x13), (2007, bP mk113E q1dII m113 false x14)], [2000], 0⟩ (an2 (And.intro (cpC fun hc => (f57_ok _ _ _ _ _ _ _ _ (hr24 hc))) (an1 ob3)) ob4) ?_
      refine thenQ_normal ?_
      refine AWp.cond (b := ((x2 == (2 : Int)) && r24)) (by kernel_rfl) (fun hc8 => ?_) (fun hc8 => ?_)
      ·
        replace h := ite_tb hc8 h
        refine q1rr [] [(5, ⟨[.own 2007, .agg (f45z3 x3 x5), .bool true], [2007], [2007], [(2007, bP mk113E q1dII m113 false (updM x14 (x3, x5) true))], .any, [], [], []⟩)] ⟨139, [], [(2000, .cells 115 (f45z0)), (2001, bP (V.int .i64) 0 m108 [] l19), (2002, bP (V.int .i64) 0 m109 false l20), (2003, bP mk110E q1dII m110 [] l21), (2004, bP (V.int .i64) 0 m111 0 l22), (2005, bP mk110E q1dII m110 [] x12), (2006, bP mk112E q1dIIS m112 false x13), (2007, bP mk113E q1dII m113 false (updM x14 (x3, x5) true))], [2000], 0⟩ (an1 (And.intro (updP_spec Tryz.underlying113 mk113E kE113 (.mapUpdate 113 (.tmp 137) (.tmp 138) (.const (.bool true))) (.tmp 137) (.tmp 138) (.const (.bool true)) (.inr rfl) q1dII m113 false (fun _ => rfl) 0 2007 x14 (x3, x5) true) (VLes.same [.own 2007, .agg (f45z3 x3 x5), .bool true]))) ?_
        refine blockQ_normal ?_
        have hret := Option.some.inj h
        subst hret
        exact bodyQ_le (Le.mk (s' := ⟨139, [], [(2000, .cells 115 (f45z0)), (2001, bP (V.int .i64) 0 m108 [] l19), (2002, bP (V.int .i64) 0 m109 false l20), (2003, bP mk110E q1dII m110 [] l21), (2004, bP (V.int .i64) 0 m111 0 l22), (2005, bP mk110E q1dII m110 [] x12), (2006, bP mk112E q1dIIS m112 false x13), (2007, bP mk113E q1dII m113 false (updM x14 (x3, x5) true))], [2000], 0⟩) rfl rfl trivial ⟨⟨_, rfl, .refl _⟩, ⟨_, rfl, .refl _⟩, ⟨_, rfl, .refl _⟩, ⟨_, rfl, .refl _⟩, ⟨_, rfl, .refl _⟩, ⟨_, rfl, .refl _⟩, ⟨_, rfl, .refl _⟩, ⟨_, rfl, .refl _⟩, trivial⟩) (bodyQ_normal _ rfl ⟨rfl, rfl⟩ rfl)
      ·
        replace h := ite_fb hc8 h
        refine AWp.skip ?_
        refine blockQ_normal ?_
        have hret := Option.some.inj h
        subst hret
        exact bodyQ_le (Le.mk (s' := ⟨139, [], [(2000, .cells 115 (f45z0)), (2001, bP (V.int .i64) 0 m108 [] l19), (2002, bP (V.int .i64) 0 m109 false l20), (2003, bP mk110E q1dII m110 [] l21), (2004, bP (V.int .i64) 0 m111 0 l22), (2005, bP mk110E q1dII m110 [] x12), (2006, bP mk112E q1dIIS m112 false x13), (2007, bP mk113E q1dII m113 false x14)], [2000], 0⟩) rfl rfl trivial ⟨⟨_, rfl, .refl _⟩, ⟨_, rfl, .refl _⟩, ⟨_, rfl, .refl _⟩, ⟨_, rfl, .refl _⟩, ⟨_, rfl, .refl _⟩, ⟨_, rfl, .refl _⟩, ⟨_, rfl, .refl _⟩, ⟨_, rfl, .refl _⟩, trivial⟩) (bodyQ_normal _ rfl ⟨rfl, rfl⟩ rfl)
def f41_L0 (x1 : List Y51) (K1 : Int → Option (Int × Int × Int)) : Nat → (Nat × Int × (List (Int × List UInt8)) × (List (Int × Bool)) × (List ((Int × Int) × List UInt8)) × (List (Int × Int)) × (List ((Int × Int) × List UInt8)) × (List ((Int × Int × List UInt8) × Bool)) × (List ((Int × Int) × Bool))) → Option (Int × Int × Int)
  | 0, _ => none
  | k + 1, (n4, i5, l6, l7, l8, l9, l10, l11, l12) =>
    if (decide ((n4 : Int) < (((x1).length : Nat) : Int))) then (
    chk ((n4 : Int) < (((x1).length : Nat) : Int)) <|
    (f42 ((x1.getD n4 (default : Y51)).1) ((x1.getD n4 (default : Y51)).2.1) ((x1.getD n4 (default : Y51)).2.2.1) ((x1.getD n4 (default : Y51)).2.2.2.1) ((x1.getD n4 (default : Y51)).2.2.2.2.1) ((x1.getD n4 (default : Y51)).2.2.2.2.2.1) ((x1.getD n4 (default : Y51)).2.2.2.2.2.2) l6 l7 l8 l9 l10 l11 l12 i5).bind fun (r13 : Bool × (List (Int × List UInt8)) × (List (Int × Bool)) × (List ((Int × Int) × List UInt8)) × (List (Int × Int)) × (List ((Int × Int) × List UInt8)) × (List ((Int × Int × List UInt8) × Bool)) × (List ((Int × Int) × Bool)) × Int) =>
    if r13.1 then (
    some ((n4 : Int), (0 : Int), r13.2.2.2.2.2.2.2.2)
    ) else (
    (f45 ((x1.getD n4 (default : Y51)).1) ((x1.getD n4 (default : Y51)).2.1) ((x1.getD n4 (default : Y51)).2.2.1) ((x1.getD n4 (default : Y51)).2.2.2.1) ((x1.getD n4 (default : Y51)).2.2.2.2.1) ((x1.getD n4 (default : Y51)).2.2.2.2.2.1) ((x1.getD n4 (default : Y51)).2.2.2.2.2.2) r13.2.1 r13.2.2.1 r13.2.2.2.1 r13.2.2.2.2.1 r13.2.2.2.2.2.1 r13.2.2.2.2.2.2.1 r13.2.2.2.2.2.2.2.1).bind fun (r14 : (List (Int × List UInt8)) × (List (Int × Bool)) × (List ((Int × Int) × List UInt8)) × (List (Int × Int)) × (List ((Int × Int) × List UInt8)) × (List ((Int × Int × List UInt8) × Bool)) × (List ((Int × Int) × Bool))) =>
    chk (((n4 : Int) + (1 : Int)) ≤ 9223372036854775807) <|
    (f41_L0 x1 K1 k) ((n4 + 1), r13.2.2.2.2.2.2.2.2, r14.1, r14.2.1, r14.2.2.1, r14.2.2.2.1, r14.2.2.2.2.1, r14.2.2.2.2.2.1, r14.2.2.2.2.2.2)
    )
    ) else (
    K1 i5
    )
abbrev f41z0 : List V := [.own 6001, .own 6002, .own 6003, .own 6004, .own 6005, .own 6006, .own 6007]
def f41 (x1 : List Y51) (x2 : Int) : Option (Int × Int × Int) :=
  (f44 ).bind fun (r3 : (List (Int × List UInt8)) × (List (Int × Bool)) × (List ((Int × Int) × List UInt8)) × (List (Int × Int)) × (List ((Int × Int) × List UInt8)) × (List ((Int × Int × List UInt8) × Bool)) × (List ((Int × Int) × Bool))) =>
  jn (fun (i15 : Int) =>
  some ((0 : Int), (13 : Int), i15)
  ) fun (K1 : Int → Option (Int × Int × Int)) =>
  f41_L0 x1 K1 FUEL (0, x2, r3.1, r3.2.1, r3.2.2.1, r3.2.2.2.1, r3.2.2.2.2.1, r3.2.2.2.2.2.1, r3.2.2.2.2.2.2)
set_option maxRecDepth 100000 in
theorem f41_ok  (x1 : List Y51) (x2 : Int) (r : Int × Int × Int) (h : f41 x1 x2 = some r)  : Spec1 Tryz.prog 41 [] [2000] [(2000, .cells 3 [.int .i64 x2])] [vL 28 eT51 (default : Y51) x1, .fn (.func 42) [.ptr 2000 0]] (.tup [.int .i64 r.1, .int .i64 r.2.1]) [(2000, .cells 3 [.int .i64 r.2.2])] := by
  unfold f41 at h
  refine Spec1.body 0 _ _ Tryz.func41 rfl Tryz.ntmps41 rfl rfl ?_
  refine q1rq [] [] ⟨24, [(0, q1aT51 x1), (1, .fn (.func 42) [.ptr 2000 0])], [(2000, .cells 3 [.i x2])], [2000], 0⟩ trivial ?_
  refine AWp.seq ?_
  obtain ⟨r3, hr3, h⟩ := bind_ok h
  refine q1rr [] [(0, ⟨[], [], [], [(6001, bP (V.int .i64) 0 m108 [] r3.1), (6002, bP (V.int .i64) 0 m109 false r3.2.1), (6003, bP mk110E q1dII m110 [] r3.2.2.1), (6004, bP (V.int .i64) 0 m111 0 r3.2.2.2.1), (6005, bP mk110E q1dII m110 [] r3.2.2.2.2.1), (6006, bP mk112E q1dIIS m112 false r3.2.2.2.2.2.1), (6007, bP mk113E q1dII m113 false r3.2.2.2.2.2.2)], .agg (f41z0), [6001, 6002, 6003, 6004, 6005, 6006, 6007], [], []⟩)] ⟨24, [(0, q1aT51 x1), (1, .fn (.func 42) [.ptr 2000 0]), (6, .ptr 6 0)], [(6, .cells 115 (f41z0)), (2000, .cells 3 [.i x2]), (6001, bP (V.int .i64) 0 m108 [] r3.1), (6002, bP (V.int .i64) 0 m109 false r3.2.1), (6003, bP mk110E q1dII m110 [] r3.2.2.1), (6004, bP (V.int .i64) 0 m111 0 r3.2.2.2.1), (6005, bP mk110E q1dII m110 [] r3.2.2.2.2.1), (6006, bP mk112E q1dIIS m112 false r3.2.2.2.2.2.1), (6007, bP mk113E q1dII m113 false r3.2.2.2.2.2.2)], [2000], 0⟩ (an2 (cpT (Spec1.ren (swapN 3006 6007) (swapN_inv 3006 6007) rfl (Spec1.ren (swapN 3005 6006) (swapN_inv 3005 6006) rfl (Spec1.ren (swapN 3004 6005) (swapN_inv 3004 6005) rfl (Spec1.ren (swapN 3003 6004) (swapN_inv 3003 6004) rfl (Spec1.ren (swapN 3002 6003) (swapN_inv 3002 6003) rfl (Spec1.ren (swapN 3001 6002) (swapN_inv 3001 6002) rfl (Spec1.ren (swapN 3000 6001) (swapN_inv 3000 6001) rfl (f44_ok _ hr3))))))))) trivial) ?_
  refine thenQ_normal ?_
  obtain ⟨K1, hK1, h⟩ := jn_some h
  refine AWp.join (α := Int) (fun (i15 : Int) => ⟨24, [], [(2000, .cells 3 [.i i15])], [2000], 0⟩) (fun x => K1 x = some r) ?_ ?_
  ·
    refine q1rq [] [] ⟨24, [(1, .fn (.func 42) [.ptr 2000 0]), (6, .ptr 6 0), (10, q1aT51 x1), (11, .i (lZ x1)), (12, .i (0 : Int))], [(6, .cells 115 (f41z0)), (2000, .cells 3 [.i x2]), (6001, bP (V.int .i64) 0 m108 [] r3.1), (6002, bP (V.int .i64) 0 m109 false r3.2.1), (6003, bP mk110E q1dII m110 [] r3.2.2.1), (6004, bP (V.int .i64) 0 m111 0 r3.2.2.2.1), (6005, bP mk110E q1dII m110 [] r3.2.2.2.2.1), (6006, bP mk112E q1dIIS m112 false r3.2.2.2.2.2.1), (6007, bP mk113E q1dII m113 false r3.2.2.2.2.2.2)], [2000], 0⟩ trivial ?_
    refine AWp.block ?_
    refine AWp.loopL (α := Nat × (Nat × Int × (List (Int × List UInt8)) × (List (Int × Bool)) × (List ((Int × Int) × List UInt8)) × (List (Int × Int)) × (List ((Int × Int) × List UInt8)) × (List ((Int × Int × List UInt8) × Bool)) × (List ((Int × Int) × Bool)))) (fun x => match x with | (_, n4, i5, l6, l7, l8, l9, l10, l11, l12) => ⟨24, [(1, .fn (.func 42) [.ptr 2000 0]), (6, .ptr 6 0), (10, q1aT51 x1), (11, .i (lZ x1)), (12, .i (n4 : Int))], [(6, .cells 115 (f41z0)), (2000, .cells 3 [.i i5]), (6001, bP (V.int .i64) 0 m108 [] l6), (6002, bP (V.int .i64) 0 m109 false l7), (6003, bP mk110E q1dII m110 [] l8), (6004, bP (V.int .i64) 0 m111 0 l9), (6005, bP mk110E q1dII m110 [] l10), (6006, bP mk112E q1dIIS m112 false l11), (6007, bP mk113E q1dII m113 false l12)], [2000], 0⟩) (fun x => f41_L0 x1 K1 x.1 x.2 = some r) (fun x => x.1) (FUEL, 0, x2, r3.1, r3.2.1, r3.2.2.1, r3.2.2.2.1, r3.2.2.2.2.1, r3.2.2.2.2.2.1, r3.2.2.2.2.2.2) (Le.mk (s' := ⟨24, [(1, .fn (.func 42) [.ptr 2000 0]), (6, .ptr 6 0), (10, q1aT51 x1), (11, .i (lZ x1)), (12, .i (0 : Int))], [(6, .cells 115 (f41z0)), (2000, .cells 3 [.i x2]), (6001, bP (V.int .i64) 0 m108 [] r3.1), (6002, bP (V.int .i64) 0 m109 false r3.2.1), (6003, bP mk110E q1dII m110 [] r3.2.2.1), (6004, bP (V.int .i64) 0 m111 0 r3.2.2.2.1), (6005, bP mk110E q1dII m110 [] r3.2.2.2.2.1), (6006, bP mk112E q1dIIS m112 false r3.2.2.2.2.2.1), (6007, bP mk113E q1dII m113 false r3.2.2.2.2.2.2)], [2000], 0⟩) rfl rfl ⟨.refl _, .refl _, .refl _, .refl _, .refl _, trivial⟩ ⟨⟨_, rfl, .refl _⟩, ⟨_, rfl, .refl _⟩, ⟨_, rfl, .refl _⟩, ⟨_, rfl, .refl _⟩, ⟨_, rfl, .refl _⟩, ⟨_, rfl, .refl _⟩, ⟨_, rfl, .refl _⟩, ⟨_, rfl, .refl _⟩, ⟨_, rfl, .refl _⟩, trivial⟩) h ?_
    rintro ⟨k0, n4, i5, l6, l7, l8, l9, l10, l11, l12⟩ h
    cases k0 with
    | zero => exact nomatch (show (none : Option (Int × Int × Int)) = some r from h)
    | succ k0 =>
    obtain ⟨C0, hC0⟩ : ∃ C, C = f41_L0 x1 K1 k0 := ⟨_, rfl⟩
    replace h := (f41_L0.eq_2 ..).symm.trans h
    try rw [← hC0] at h
    refine q1rq [] [] ⟨24, [(1, .fn (.func 42) [.ptr 2000 0]), (6, .ptr 6 0), (10, q1aT51 x1), (11, .i (lZ x1)), (12, .i (n4 : Int)), (13, .bool (decide ((n4 : Int) < (lZ x1))))], [(6, .cells 115 (f41z0)), (2000, .cells 3 [.i i5]), (6001, bP (V.int .i64) 0 m108 [] l6), (6002, bP (V.int .i64) 0 m109 false l7), (6003, bP mk110E q1dII m110 [] l8), (6004, bP (V.int .i64) 0 m111 0 l9), (6005, bP mk110E q1dII m110 [] l10), (6006, bP mk112E q1dIIS m112 false l11), (6007, bP mk113E q1dII m113 false l12)], [2000], 0⟩ trivial ?_
    refine AWp.seq ?_
    refine AWp.cond (b := (decide ((n4 : Int) < (lZ x1)))) (by kernel_rfl) (fun hc1 => ?_) (fun hc1 => ?_)
    ·
      replace h := ite_tb hc1 h
      refine AWp.skip ?_
      refine thenQ_normal ?_
      refine AWp.seq ?_
      refine AWp.block ?_
      refine AWp.seq ?_
      obtain ⟨ob0p, h⟩ := chk_some h
      have ob0 : 0 ≤ (n4 : Int) ∧ (n4 : Int) < (((x1).length : Nat) : Int) := ⟨by omega, ob0p⟩
      refine q1rr [] [] ⟨24, [(1, .fn (.func 42) [.ptr 2000 0]), (6, .ptr 6 0), (7, .i (n4 : Int)), (8, .ptr 8 0), (10, q1aT51 x1), (11, .i (lZ x1)), (12, .i (n4 : Int))], [(6, .cells 115 (f41z0)), (8, .cells 51 [.i (x1.getD n4 q1dT51).1, .i (x1.getD n4 q1dT51).2.1, .i (x1.getD n4 q1dT51).2.2.1, .i (x1.getD n4 q1dT51).2.2.2.1, .i (x1.getD n4 q1dT51).2.2.2.2.1, .str (x1.getD n4 q1dT51).2.2.2.2.2.1, .str (x1.getD n4 q1dT51).2.2.2.2.2.2, .opq, .opq, .opq, .opq, .opq, .opq, .opq, .opq, .opq, .opq, .opq, .opq, .opq, .opq, .opq, .opq, .opq, .opq, .opq, .opq, .opq]), (2000, .cells 3 [.i i5]), (6001, bP (V.int .i64) 0 m108 [] l6), (6002, bP (V.int .i64) 0 m109 false l7), (6003, bP mk110E q1dII m110 [] l8), (6004, bP (V.int .i64) 0 m111 0 l9), (6005, bP mk110E q1dII m110 [] l10), (6006, bP mk112E q1dIIS m112 false l11), (6007, bP mk113E q1dII m113 false l12)], [2000], 0⟩ (an2 ob0 trivial) ?_
      refine thenQ_normal ?_
      refine AWp.seq ?_
      refine AWp.seq ?_
      obtain ⟨r13, hr13, h⟩ := bind_ok h
      refine q1rr [] [(2, ⟨[.ptr 6 0, .agg [.i (x1.getD n4 q1dT51).1, .i (x1.getD n4 q1dT51).2.1, .i (x1.getD n4 q1dT51).2.2.1, .i (x1.getD n4 q1dT51).2.2.2.1, .i (x1.getD n4 q1dT51).2.2.2.2.1, .str (x1.getD n4 q1dT51).2.2.2.2.2.1, .str (x1.getD n4 q1dT51).2.2.2.2.2.2, .opq, .opq, .opq, .opq, .opq, .opq, .opq, .opq, .opq, .opq, .opq, .opq, .opq, .opq, .opq, .opq, .opq, .opq, .opq, .opq, .opq], .ptr 2000 0], [6, 6001, 6002, 6003, 6004, 6005, 6006, 6007, 2000], [6, 2000], [(6, .cells 115 (f41z0)), (6001, bP (V.int .i64) 0 m108 [] r13.2.1), (6002, bP (V.int .i64) 0 m109 false r13.2.2.1), (6003, bP mk110E q1dII m110 [] r13.2.2.2.1), (6004, bP (V.int .i64) 0 m111 0 r13.2.2.2.2.1), (6005, bP mk110E q1dII m110 [] r13.2.2.2.2.2.1), (6006, bP mk112E q1dIIS m112 false r13.2.2.2.2.2.2.1), (6007, bP mk113E q1dII m113 false r13.2.2.2.2.2.2.2.1), (2000, .cells 3 [.i r13.2.2.2.2.2.2.2.2])], .bool r13.1, [6001, 6002, 6003, 6004, 6005, 6006, 6007], [], []⟩)] ⟨24, [(1, .fn (.func 42) [.ptr 2000 0]), (6, .ptr 6 0), (7, .i (n4 : Int)), (8, .ptr 8 0), (10, q1aT51 x1), (11, .i (lZ x1)), (12, .i (n4 : Int)), (19, .bool r13.1)], [(6, .cells 115 (f41z0)), (8, .cells 51 [.i (x1.getD n4 q1dT51).1, .i (x1.getD n4 q1dT51).2.1, .i (x1.getD n4 q1dT51).2.2.1, .i (x1.getD n4 q1dT51).2.2.2.1, .i (x1.getD n4 q1dT51).2.2.2.2.1, .str (x1.getD n4 q1dT51).2.2.2.2.2.1, .str (x1.getD n4 q1dT51).2.2.2.2.2.2, .opq, .opq, .opq, .opq, .opq, .opq, .opq, .opq, .opq, .opq, .opq, .opq, .opq, .opq, .opq, .opq, .opq, .opq, .opq, .opq, .opq]), (2000, .cells 3 [.i r13.2.2.2.2.2.2.2.2]), (6001, bP (V.int .i64) 0 m108 [] r13.2.1), (6002, bP (V.int .i64) 0 m109 false r13.2.2.1), (6003, bP mk110E q1dII m110 [] r13.2.2.2.1), (6004, bP (V.int .i64) 0 m111 0 r13.2.2.2.2.1), (6005, bP mk110E q1dII m110 [] r13.2.2.2.2.2.1), (6006, bP mk112E q1dIIS m112 false r13.2.2.2.2.2.2.1), (6007, bP mk113E q1dII m113 false r13.2.2.2.2.2.2.2.1)], [2000], 0⟩ (an1 (cpT (Spec1.ren (swapN 2008 2000) (swapN_inv 2008 2000) rfl (Spec1.ren (swapN 2007 6007) (swapN_inv 2007 6007) rfl (Spec1.ren (swapN 2006 6006) (swapN_inv 2006 6006) rfl (Spec1.ren (swapN 2005 6005) (swapN_inv 2005 6005) rfl (Spec1.ren (swapN 2004 6004) (swapN_inv 2004 6004) rfl (Spec1.ren (swapN 2003 6003) (swapN_inv 2003 6003) rfl (Spec1.ren (swapN 2002 6002) (swapN_inv 2002 6002) rfl (Spec1.ren (swapN 2001 6001) (swapN_inv 2001 6001) rfl (Spec1.ren (swapN 2000 6) (swapN_inv 2000 6) rfl (f42_ok _ _ _ _ _ _ _ _ _ _ _ _ _ _ _ _ hr13)))))))))))) ?_
      refine thenQ_normal ?_
      refine AWp.cond (b := r13.1) (by kernel_rfl) (fun hc2 => ?_) (fun hc2 => ?_)
      ·
        replace h := ite_tb hc2 h
        refine q1rq [] [] ⟨24, [(4, .i (n4 : Int)), (5, .i (0 : Int))], [(2000, .cells 3 [.i r13.2.2.2.2.2.2.2.2])], [2000], 0⟩ trivial ?_
        have hret := Option.some.inj h
        subst hret
        refine AWp.le (Le.mk (s' := ⟨24, [(4, .i (n4 : Int)), (5, .i (0 : Int))], [(2000, .cells 3 [.i r13.2.2.2.2.2.2.2.2])], [2000], 0⟩) rfl rfl ⟨.refl _, .refl _, trivial⟩ ⟨⟨_, rfl, .refl _⟩, trivial⟩) ?_
        refine AWp.ret ?_
        refine thenQ_ret ?_
        refine blockQ_ret ?_
        refine thenQ_ret ?_
        refine thenQ_ret ?_
        refine blockQ_ret ?_
        refine joinQ_ret ?_
        exact bodyQ_ret _ rfl ⟨rfl, rfl⟩ rfl
      ·
        replace h := ite_fb hc2 h
        refine AWp.skip ?_
        refine thenQ_normal ?_
        obtain ⟨r14, hr14, h⟩ := bind_ok h
        refine q1rr [] [(1, ⟨[.ptr 6 0, .agg [.i (x1.getD n4 q1dT51).1, .i (x1.getD n4 q1dT51).2.1, .i (x1.getD n4 q1dT51).2.2.1, .i (x1.getD n4 q1dT51).2.2.2.1, .i (x1.getD n4 q1dT51).2.2.2.2.1, .str (x1.getD n4 q1dT51).2.2.2.2.2.1, .str (x1.getD n4 q1dT51).2.2.2.2.2.2, .opq, .opq, .opq, .opq, .opq, .opq, .opq, .opq, .opq, .opq, .opq, .opq, .opq, .opq, .opq, .opq, .opq, .opq, .opq, .opq, .opq]], [6, 6001, 6002, 6003, 6004, 6005, 6006, 6007], [6], [(6, .cells 115 (f41z0)), (6001, bP (V.int .i64) 0 m108 [] r14.1), (6002, bP (V.int .i64) 0 m109 false r14.2.1), (6003, bP mk110E q1dII m110 [] r14.2.2.1), (6004, bP (V.int .i64) 0 m111 0 r14.2.2.2.1), (6005, bP mk110E q1dII m110 [] r14.2.2.2.2.1), (6006, bP mk112E q1dIIS m112 false r14.2.2.2.2.2.1), (6007, bP mk113E q1dII m113 false r14.2.2.2.2.2.2)], .tup [], [6001, 6002, 6003, 6004, 6005, 6006, 6007], [], []⟩)] ⟨24, [(1, .fn (.func 42) [.ptr 2000 0]), (6, .ptr 6 0), (10, q1aT51 x1), (11, .i (lZ x1)), (12, .i (n4 : Int))], [(6, .cells 115 (f41z0)), (2000, .cells 3 [.i r13.2.2.2.2.2.2.2.2]), (6001, bP (V.int .i64) 0 m108 [] r14.1), (6002, bP (V.int .i64) 0 m109 false r14.2.1), (6003, bP mk110E q1dII m110 [] r14.2.2.1), (6004, bP (V.int .i64) 0 m111 0 r14.2.2.2.1), (6005, bP mk110E q1dII m110 [] r14.2.2.2.2.1), (6006, bP mk112E q1dIIS m112 false r14.2.2.2.2.2.1), (6007, bP mk113E q1dII m113 false r14.2.2.2.2.2.2)], [2000], 0⟩ (an1 (cpT (Spec1.ren (swapN 2007 6007) (swapN_inv 2007 6007) rfl (Spec1.ren (swapN 2006 6006) (swapN_inv 2006 6006) rfl (Spec1.ren (swapN 2005 6005) (swapN_inv 2005 6005) rfl (Spec1.ren (swapN 2004 6004) (swapN_inv 2004 6004) rfl (Spec1.ren (swapN 2003 6003) (swapN_inv 2003 6003) rfl (Spec1.ren (swapN 2002 6002) (swapN_inv 2002 6002) rfl (Spec1.ren (swapN 2001 6001) (swapN_inv 2001 6001) rfl (Spec1.ren (swapN 2000 6) (swapN_inv 2000 6) rfl (f45_ok _ _ _ _ _ _ _ _ _ _ _ _ _ _ _ hr14))))))))))) ?_
        refine blockQ_normal ?_
        refine thenQ_normal ?_
        obtain ⟨ob1p, h⟩ := chk_some h
        have ob1 : -9223372036854775808 ≤ ((n4 : Int) + (1 : Int)) ∧ ((n4 : Int) + (1 : Int)) ≤ 9223372036854775807 := ⟨by omega, ob1p⟩
        refine q1rr [] [] ⟨24, [(1, .fn (.func 42) [.ptr 2000 0]), (6, .ptr 6 0), (10, q1aT51 x1), (11, .i (lZ x1)), (12, .i (((n4 + 1) : Nat) : Int))], [(6, .cells 115 (f41z0)), (2000, .cells 3 [.i r13.2.2.2.2.2.2.2.2]), (6001, bP (V.int .i64) 0 m108 [] r14.1), (6002, bP (V.int .i64) 0 m109 false r14.2.1), (6003, bP mk110E q1dII m110 [] r14.2.2.1), (6004, bP (V.int .i64) 0 m111 0 r14.2.2.2.1), (6005, bP mk110E q1dII m110 [] r14.2.2.2.2.1), (6006, bP mk112E q1dIIS m112 false r14.2.2.2.2.2.1), (6007, bP mk113E q1dII m113 false r14.2.2.2.2.2.2)], [2000], 0⟩ (an1 ob1) ?_
        rw [hC0] at h
        exact loopQ_normal (_, (n4 + 1), r13.2.2.2.2.2.2.2.2, r14.1, r14.2.1, r14.2.2.1, r14.2.2.2.1, r14.2.2.2.2.1, r14.2.2.2.2.2.1, r14.2.2.2.2.2.2) (Le.mk rfl rfl ⟨.refl _, .refl _, .refl _, .refl _, .refl _, trivial⟩ ⟨⟨_, rfl, .refl _⟩, ⟨_, rfl, .refl _⟩, ⟨_, rfl, .refl _⟩, ⟨_, rfl, .refl _⟩, ⟨_, rfl, .refl _⟩, ⟨_, rfl, .refl _⟩, ⟨_, rfl, .refl _⟩, ⟨_, rfl, .refl _⟩, ⟨_, rfl, .refl _⟩, trivial⟩) h (Nat.lt_succ_self _)
    ·
      replace h := ite_fb hc1 h
      refine AWp.exit ?_
      refine thenQ_exit ?_
      refine thenQ_exit ?_
      refine blockQ_same ?_
      exact joinQ_normal (i5) (Le.mk rfl rfl trivial ⟨⟨_, rfl, .refl _⟩, trivial⟩) h
  ·
    rintro i15 h
    replace h := (congrFun hK1 _).symm.trans h
    refine q1rq [] [] ⟨24, [(4, .i (0 : Int)), (5, .i (13 : Int))], [(2000, .cells 3 [.i i15])], [2000], 0⟩ trivial ?_
    have hret := Option.some.inj h
    subst hret
    refine AWp.le (Le.mk (s' := ⟨24, [(4, .i (0 : Int)), (5, .i (13 : Int))], [(2000, .cells 3 [.i i15])], [2000], 0⟩) rfl rfl ⟨.refl _, .refl _, trivial⟩ ⟨⟨_, rfl, .refl _⟩, trivial⟩) ?_
    refine AWp.ret ?_
    exact bodyQ_ret _ rfl ⟨rfl, rfl⟩ rfl
def f13 (_x1 : List (List UInt8)) (_x2 : List (List UInt8 × BitVec 16)) (_x3 : BitVec 16) (_x4 : List (List UInt8 × Int × BitVec 16 × List (BitVec 16) × List (BitVec 16) × (List (BitVec 16 × BitVec 16)))) (_x5 : List Int) (_x6 : List (List UInt8 × Bool × (List (BitVec 16 × BitVec 16)))) (x7 : List Y51) : Option (Int × Int × Int) :=
  (f41 x7 (0 : Int)).bind fun (r8 : Int × Int × Int) =>
  some (r8.1, r8.2.2, r8.2.1)
set_option maxRecDepth 100000 in
theorem f13_ok  (x1 : List (List UInt8)) (x2 : List (List UInt8 × BitVec 16)) (x3 : BitVec 16) (x4 : List (List UInt8 × Int × BitVec 16 × List (BitVec 16) × List (BitVec 16) × (List (BitVec 16 × BitVec 16)))) (x5 : List Int) (x6 : List (List UInt8 × Bool × (List (BitVec 16 × BitVec 16)))) (x7 : List Y51) (r : Int × Int × Int) (h : f13 x1 x2 x3 x4 x5 x6 x7 = some r)  : Spec1 Tryz.prog 13 [] [] [] [.agg [vL 1 eS [] x1, vL 2 eSW (default : List UInt8 × BitVec 16) x2, .b16 x3, vL 6 eT73 (default : List UInt8 × Int × BitVec 16 × List (BitVec 16) × List (BitVec 16) × (List (BitVec 16 × BitVec 16))) x4, vL 1 eI 0 x5, vL 3 eSBLWWJ (default : List UInt8 × Bool × (List (BitVec 16 × BitVec 16))) x6], vL 28 eT51 (default : Y51) x7] (.tup [.int .i64 r.1, .int .i64 r.2.1, .int .i64 r.2.2]) [] := by
  unfold f13 at h
  refine Spec1.body 0 _ _ Tryz.func13 rfl Tryz.ntmps13 rfl rfl ?_
  refine q1rq [] [] ⟨19, [(1, q1aT51 x7)], [], [], 0⟩ trivial ?_
  refine q1rq [] [] ⟨19, [(1, q1aT51 x7), (7, .ptr 7 0)], [(7, .cells 3 [.i (0 : Int)])], [], 0⟩ (an1 trivial) ?_
  refine AWp.seq ?_
  obtain ⟨r8, hr8, h⟩ := bind_ok h
  refine q1rr [] [(2, ⟨[q1aT51 x7, .fn (.func 42) [.ptr 7 0]], [7], [7], [(7, .cells 3 [.i r8.2.2])], .tup [.i r8.1, .i r8.2.1], [], [], []⟩)] ⟨19, [(7, .ptr 7 0), (8, .i r8.1), (9, .i r8.2.1)], [(7, .cells 3 [.i r8.2.2])], [], 0⟩ (an1 (cpT (Spec1.ren (swapN 2000 7) (swapN_inv 2000 7) rfl (f41_ok _ _ _ hr8)))) ?_
  refine thenQ_normal ?_
  refine q1rq [] [] ⟨19, [(4, .i r8.1), (5, .i r8.2.2), (6, .i r8.2.1)], [], [], 0⟩ trivial ?_
  have hret := Option.some.inj h
  subst hret
  refine AWp.le (Le.mk (s' := ⟨19, [(4, .i r8.1), (5, .i r8.2.2), (6, .i r8.2.1)], [], [], 0⟩) rfl rfl ⟨.refl _, .refl _, .refl _, trivial⟩ trivial) ?_
  refine AWp.ret ?_
  exact bodyQ_ret _ rfl ⟨rfl, rfl⟩ rfl
def f14_L0 (x1 : List Y51) (K1 : ((List (Int × List UInt8)) × (List (Int × Bool)) × (List ((Int × Int) × List UInt8)) × (List (Int × Int)) × (List ((Int × Int) × List UInt8)) × (List ((Int × Int × List UInt8) × Bool)) × (List ((Int × Int) × Bool))) → Option (List (List UInt8))) : Nat → (Nat × (List (Int × List UInt8)) × (List (Int × Bool)) × (List ((Int × Int) × List UInt8)) × (List (Int × Int)) × (List ((Int × Int) × List UInt8)) × (List ((Int × Int × List UInt8) × Bool)) × (List ((Int × Int) × Bool))) → Option (List (List UInt8))
  | 0, _ => none
  | k + 1, (n3, l4, l5, l6, l7, l8, l9, l10) =>
    if (decide ((n3 : Int) < (((x1).length : Nat) : Int))) then (
    chk ((n3 : Int) < (((x1).length : Nat) : Int)) <|
    (f45 ((x1.getD n3 (default : Y51)).1) ((x1.getD n3 (default : Y51)).2.1) ((x1.getD n3 (default : Y51)).2.2.1) ((x1.getD n3 (default : Y51)).2.2.2.1) ((x1.getD n3 (default : Y51)).2.2.2.2.1) ((x1.getD n3 (default : Y51)).2.2.2.2.2.1) ((x1.getD n3 (default : Y51)).2.2.2.2.2.2) l4 l5 l6 l7 l8 l9 l10).bind fun (r11 : (List (Int × List UInt8)) × (List (Int × Bool)) × (List ((Int × Int) × List UInt8)) × (List (Int × Int)) × (List ((Int × Int) × List UInt8)) × (List ((Int × Int × List UInt8) × Bool)) × (List ((Int × Int) × Bool))) =>
    chk (((n3 : Int) + (1 : Int)) ≤ 9223372036854775807) <|
    (f14_L0 x1 K1 k) ((n3 + 1), r11.1, r11.2.1, r11.2.2.1, r11.2.2.2.1, r11.2.2.2.2.1, r11.2.2.2.2.2.1, r11.2.2.2.2.2.2)
    ) else (
    K1 (l4, l5, l6, l7, l8, l9, l10)
    )
def f14_L1 (l12 : List (Int × List UInt8)) (l13 : List (Int × Bool)) : Nat → (List (List UInt8)) → Option (List (List UInt8))
  | 0, _ => none
  | k + 1, l19 =>
    if (!(hM l12 (((l19).length : Nat) : Int))) = true then (
    some l19
    ) else (
    if (gM l13 false (((l19).length : Nat) : Int)) then (
    some l19
    ) else (
    chk (((l19).length + 1) * 16 ≤ 140737488355328) <|
    (f14_L1 l12 l13 k) (l19 ++ [(gM l12 [] (((l19).length : Nat) : Int))])
    )
    )
abbrev f14z0 : List V := [.own 6001, .own 6002, .own 6003, .own 6004, .own 6005, .own 6006, .own 6007]
abbrev f14z1 := (List ((Int × Int) × List UInt8))
abbrev f14z2 : List (Nat × V) := [(3, .ptr 3 0), (6, .own 5006)]
def f14 (x1 : List Y51) : Option (List (List UInt8)) :=
  (f44 ).bind fun (r2 : (List (Int × List UInt8)) × (List (Int × Bool)) × (List ((Int × Int) × List UInt8)) × (List (Int × Int)) × (List ((Int × Int) × List UInt8)) × (List ((Int × Int × List UInt8) × Bool)) × (List ((Int × Int) × Bool))) =>
  jn (fun ((l12, l13, _l14, _l15, _l16, _l17, _l18) : (List (Int × List UInt8)) × (List (Int × Bool)) × (List ((Int × Int) × List UInt8)) × (List (Int × Int)) × (List ((Int × Int) × List UInt8)) × (List ((Int × Int × List UInt8) × Bool)) × (List ((Int × Int) × Bool))) =>
  f14_L1 l12 l13 FUEL []
  ) fun (K1 : ((List (Int × List UInt8)) × (List (Int × Bool)) × (List ((Int × Int) × List UInt8)) × (List (Int × Int)) × (List ((Int × Int) × List UInt8)) × (List ((Int × Int × List UInt8) × Bool)) × (List ((Int × Int) × Bool))) → Option (List (List UInt8))) =>
  f14_L0 x1 K1 FUEL (0, r2.1, r2.2.1, r2.2.2.1, r2.2.2.2.1, r2.2.2.2.2.1, r2.2.2.2.2.2.1, r2.2.2.2.2.2.2)
set_option maxRecDepth 100000 in
theorem f14_ok  (x1 : List Y51) (r : List (List UInt8)) (h : f14 x1 = some r)  : Spec1 Tryz.prog 14 [] [] [] [vL 28 eT51 (default : Y51) x1] (.own 3000) [(3000, bL 9 1 eS [] r)] := by
  unfold f14 at h
  refine Spec1.body 0 _ _ Tryz.func14 rfl Tryz.ntmps14 rfl rfl ?_
  refine q1rq [] [] ⟨41, [(0, q1aT51 x1)], [], [], 0⟩ trivial ?_
  refine AWp.seq ?_
  obtain ⟨r2, hr2, h⟩ := bind_ok h
  refine q1rr [] [(0, ⟨[], [], [], [(6001, bP (V.int .i64) 0 m108 [] r2.1), (6002, bP (V.int .i64) 0 m109 false r2.2.1), (6003, bP mk110E q1dII m110 [] r2.2.2.1), (6004, bP (V.int .i64) 0 m111 0 r2.2.2.2.1), (6005, bP mk110E q1dII m110 [] r2.2.2.2.2.1), (6006, bP mk112E q1dIIS m112 false r2.2.2.2.2.2.1), (6007, bP mk113E q1dII m113 false r2.2.2.2.2.2.2)], .agg (f14z0), [6001, 6002, 6003, 6004, 6005, 6006, 6007], [], []⟩)] ⟨41, [(0, q1aT51 x1), (3, .ptr 3 0)], [(3, .cells 115 (f14z0)), (6001, bP (V.int .i64) 0 m108 [] r2.1), (6002, bP (V.int .i64) 0 m109 false r2.2.1), (6003, bP mk110E q1dII m110 [] r2.2.2.1), (6004, bP (V.int .i64) 0 m111 0 r2.2.2.2.1), (6005, bP mk110E q1dII m110 [] r2.2.2.2.2.1), (6006, bP mk112E q1dIIS m112 false r2.2.2.2.2.2.1), (6007, bP mk113E q1dII m113 false r2.2.2.2.2.2.2)], [], 0⟩ (an2 (cpT (Spec1.ren (swapN 3006 6007) (swapN_inv 3006 6007) rfl (Spec1.ren (swapN 3005 6006) (swapN_inv 3005 6006) rfl (Spec1.ren (swapN 3004 6005) (swapN_inv 3004 6005) rfl (Spec1.ren (swapN 3003 6004) (swapN_inv 3003 6004) rfl (Spec1.ren (swapN 3002 6003) (swapN_inv 3002 6003) rfl (Spec1.ren (swapN 3001 6002) (swapN_inv 3001 6002) rfl (Spec1.ren (swapN 3000 6001) (swapN_inv 3000 6001) rfl (f44_ok _ hr2))))))))) trivial) ?_
  refine thenQ_normal ?_
  obtain ⟨K1, hK1, h⟩ := jn_some h
  refine AWp.join (α := (List (Int × List UInt8)) × (List (Int × Bool)) × (f14z1) × (List (Int × Int)) × (f14z1) × (List ((Int × Int × List UInt8) × Bool)) × (List ((Int × Int) × Bool))) (fun (x : (List (Int × List UInt8)) × (List (Int × Bool)) × (f14z1) × (List (Int × Int)) × (f14z1) × (List ((Int × Int × List UInt8) × Bool)) × (List ((Int × Int) × Bool))) => match x with | (l12, l13, l14, l15, l16, l17, l18) => ⟨41, [(3, .ptr 3 0)], [(3, .cells 115 (f14z0)), (6001, bP (V.int .i64) 0 m108 [] l12), (6002, bP (V.int .i64) 0 m109 false l13), (6003, bP mk110E q1dII m110 [] l14), (6004, bP (V.int .i64) 0 m111 0 l15), (6005, bP mk110E q1dII m110 [] l16), (6006, bP mk112E q1dIIS m112 false l17), (6007, bP mk113E q1dII m113 false l18)], [], 0⟩) (fun x => K1 x = some r) ?_ ?_
  ·
    refine q1rq [] [] ⟨41, [(3, .ptr 3 0), (10, q1aT51 x1), (11, .i (lZ x1)), (12, .i (0 : Int))], [(3, .cells 115 (f14z0)), (6001, bP (V.int .i64) 0 m108 [] r2.1), (6002, bP (V.int .i64) 0 m109 false r2.2.1), (6003, bP mk110E q1dII m110 [] r2.2.2.1), (6004, bP (V.int .i64) 0 m111 0 r2.2.2.2.1), (6005, bP mk110E q1dII m110 [] r2.2.2.2.2.1), (6006, bP mk112E q1dIIS m112 false r2.2.2.2.2.2.1), (6007, bP mk113E q1dII m113 false r2.2.2.2.2.2.2)], [], 0⟩ trivial ?_
    refine AWp.block ?_
    refine AWp.loopL (α := Nat × (Nat × (List (Int × List UInt8)) × (List (Int × Bool)) × (f14z1) × (List (Int × Int)) × (f14z1) × (List ((Int × Int × List UInt8) × Bool)) × (List ((Int × Int) × Bool)))) (fun x => match x with | (_, n3, l4, l5, l6, l7, l8, l9, l10) => ⟨41, [(3, .ptr 3 0), (10, q1aT51 x1), (11, .i (lZ x1)), (12, .i (n3 : Int))], [(3, .cells 115 (f14z0)), (6001, bP (V.int .i64) 0 m108 [] l4), (6002, bP (V.int .i64) 0 m109 false l5), (6003, bP mk110E q1dII m110 [] l6), (6004, bP (V.int .i64) 0 m111 0 l7), (6005, bP mk110E q1dII m110 [] l8), (6006, bP mk112E q1dIIS m112 false l9), (6007, bP mk113E q1dII m113 false l10)], [], 0⟩) (fun x => f14_L0 x1 K1 x.1 x.2 = some r) (fun x => x.1) (FUEL, 0, r2.1, r2.2.1, r2.2.2.1, r2.2.2.2.1, r2.2.2.2.2.1, r2.2.2.2.2.2.1, r2.2.2.2.2.2.2) (Le.mk (s' := ⟨41, [(3, .ptr 3 0), (10, q1aT51 x1), (11, .i (lZ x1)), (12, .i (0 : Int))], [(3, .cells 115 (f14z0)), (6001, bP (V.int .i64) 0 m108 [] r2.1), (6002, bP (V.int .i64) 0 m109 false r2.2.1), (6003, bP mk110E q1dII m110 [] r2.2.2.1), (6004, bP (V.int .i64) 0 m111 0 r2.2.2.2.1), (6005, bP mk110E q1dII m110 [] r2.2.2.2.2.1), (6006, bP mk112E q1dIIS m112 false r2.2.2.2.2.2.1), (6007, bP mk113E q1dII m113 false r2.2.2.2.2.2.2)], [], 0⟩) rfl rfl ⟨.refl _, .refl _, .refl _, .refl _, trivial⟩ ⟨⟨_, rfl, .refl _⟩, ⟨_, rfl, .refl _⟩, ⟨_, rfl, .refl _⟩, ⟨_, rfl, .refl _⟩, ⟨_, rfl, .refl _⟩, ⟨_, rfl, .refl _⟩, ⟨_, rfl, .refl _⟩, ⟨_, rfl, .refl _⟩, trivial⟩) h ?_
    rintro ⟨k0, n3, l4, l5, l6, l7, l8, l9, l10⟩ h
    cases k0 with
    | zero => exact nomatch (show (none : Option (List (List UInt8))) = some r from h)
    | succ k0 =>
    obtain ⟨C0, hC0⟩ : ∃ C, C = f14_L0 x1 K1 k0 := ⟨_, rfl⟩
    replace h := (f14_L0.eq_2 ..).symm.trans h
    try rw [← hC0] at h
    refine q1rq [] [] ⟨41, [(3, .ptr 3 0), (10, q1aT51 x1), (11, .i (lZ x1)), (12, .i (n3 : Int)), (13, .bool (decide ((n3 : Int) < (lZ x1))))], [(3, .cells 115 (f14z0)), (6001, bP (V.int .i64) 0 m108 [] l4), (6002, bP (V.int .i64) 0 m109 false l5), (6003, bP mk110E q1dII m110 [] l6), (6004, bP (V.int .i64) 0 m111 0 l7), (6005, bP mk110E q1dII m110 [] l8), (6006, bP mk112E q1dIIS m112 false l9), (6007, bP mk113E q1dII m113 false l10)], [], 0⟩ trivial ?_
    refine AWp.seq ?_
    refine AWp.cond (b := (decide ((n3 : Int) < (lZ x1)))) (by kernel_rfl) (fun hc1 => ?_) (fun hc1 => ?_)
    ·
      replace h := ite_tb hc1 h
      refine AWp.skip ?_
      refine thenQ_normal ?_
      refine AWp.seq ?_
      refine AWp.block ?_
      refine AWp.seq ?_
      obtain ⟨ob0p, h⟩ := chk_some h
      have ob0 : 0 ≤ (n3 : Int) ∧ (n3 : Int) < (((x1).length : Nat) : Int) := ⟨by omega, ob0p⟩
      refine q1rr [] [] ⟨41, [(3, .ptr 3 0), (5, .ptr 5 0), (10, q1aT51 x1), (11, .i (lZ x1)), (12, .i (n3 : Int))], [(3, .cells 115 (f14z0)), (5, .cells 51 [.i (x1.getD n3 q1dT51).1, .i (x1.getD n3 q1dT51).2.1, .i (x1.getD n3 q1dT51).2.2.1, .i (x1.getD n3 q1dT51).2.2.2.1, .i (x1.getD n3 q1dT51).2.2.2.2.1, .str (x1.getD n3 q1dT51).2.2.2.2.2.1, .str (x1.getD n3 q1dT51).2.2.2.2.2.2, .opq, .opq, .opq, .opq, .opq, .opq, .opq, .opq, .opq, .opq, .opq, .opq, .opq, .opq, .opq, .opq, .opq, .opq, .opq, .opq, .opq]), (6001, bP (V.int .i64) 0 m108 [] l4), (6002, bP (V.int .i64) 0 m109 false l5), (6003, bP mk110E q1dII m110 [] l6), (6004, bP (V.int .i64) 0 m111 0 l7), (6005, bP mk110E q1dII m110 [] l8), (6006, bP mk112E q1dIIS m112 false l9), (6007, bP mk113E q1dII m113 false l10)], [], 0⟩ (an2 ob0 trivial) ?_
      refine thenQ_normal ?_
      obtain ⟨r11, hr11, h⟩ := bind_ok h
      refine q1rr [] [(1, ⟨[.ptr 3 0, .agg [.i (x1.getD n3 q1dT51).1, .i (x1.getD n3 q1dT51).2.1, .i (x1.getD n3 q1dT51).2.2.1, .i (x1.getD n3 q1dT51).2.2.2.1, .i (x1.getD n3 q1dT51).2.2.2.2.1, .str (x1.getD n3 q1dT51).2.2.2.2.2.1, .str (x1.getD n3 q1dT51).2.2.2.2.2.2, .opq, .opq, .opq, .opq, .opq, .opq, .opq, .opq, .opq, .opq, .opq, .opq, .opq, .opq, .opq, .opq, .opq, .opq, .opq, .opq, .opq]], [3, 6001, 6002, 6003, 6004, 6005, 6006, 6007], [3], [(3, .cells 115 (f14z0)), (6001, bP (V.int .i64) 0 m108 [] r11.1), (6002, bP (V.int .i64) 0 m109 false r11.2.1), (6003, bP mk110E q1dII m110 [] r11.2.2.1), (6004, bP (V.int .i64) 0 m111 0 r11.2.2.2.1), (6005, bP mk110E q1dII m110 [] r11.2.2.2.2.1), (6006, bP mk112E q1dIIS m112 false r11.2.2.2.2.2.1), (6007, bP mk113E q1dII m113 false r11.2.2.2.2.2.2)], .tup [], [6001, 6002, 6003, 6004, 6005, 6006, 6007], [], []⟩)] ⟨41, [(3, .ptr 3 0), (10, q1aT51 x1), (11, .i (lZ x1)), (12, .i (n3 : Int))], [(3, .cells 115 (f14z0)), (6001, bP (V.int .i64) 0 m108 [] r11.1), (6002, bP (V.int .i64) 0 m109 false r11.2.1), (6003, bP mk110E q1dII m110 [] r11.2.2.1), (6004, bP (V.int .i64) 0 m111 0 r11.2.2.2.1), (6005, bP mk110E q1dII m110 [] r11.2.2.2.2.1), (6006, bP mk112E q1dIIS m112 false r11.2.2.2.2.2.1), (6007, bP mk113E q1dII m113 false r11.2.2.2.2.2.2)], [], 0⟩ (an1 (cpT (Spec1.ren (swapN 2007 6007) (swapN_inv 2007 6007) rfl (Spec1.ren (swapN 2006 6006) (swapN_inv 2006 6006) rfl (Spec1.ren (swapN 2005 6005) (swapN_inv 2005 6005) rfl (Spec1.ren (swapN 2004 6004) (swapN_inv 2004 6004) rfl (Spec1.ren (swapN 2003 6003) (swapN_inv 2003 6003) rfl (Spec1.ren (swapN 2002 6002) (swapN_inv 2002 6002) rfl (Spec1.ren (swapN 2001 6001) (swapN_inv 2001 6001) rfl (Spec1.ren (swapN 2000 3) (swapN_inv 2000 3) rfl (f45_ok _ _ _ _ _ _ _ _ _ _ _ _ _ _ _ hr11))))))))))) ?_
      refine blockQ_normal ?_
      refine thenQ_normal ?_
      obtain ⟨ob1p, h⟩ := chk_some h
      have ob1 : -9223372036854775808 ≤ ((n3 : Int) + (1 : Int)) ∧ ((n3 : Int) + (1 : Int)) ≤ 9223372036854775807 := ⟨by omega, ob1p⟩
      refine q1rr [] [] ⟨41, [(3, .ptr 3 0), (10, q1aT51 x1), (11, .i (lZ x1)), (12, .i (((n3 + 1) : Nat) : Int))], [(3, .cells 115 (f14z0)), (6001, bP (V.int .i64) 0 m108 [] r11.1), (6002, bP (V.int .i64) 0 m109 false r11.2.1), (6003, bP mk110E q1dII m110 [] r11.2.2.1), (6004, bP (V.int .i64) 0 m111 0 r11.2.2.2.1), (6005, bP mk110E q1dII m110 [] r11.2.2.2.2.1), (6006, bP mk112E q1dIIS m112 false r11.2.2.2.2.2.1), (6007, bP mk113E q1dII m113 false r11.2.2.2.2.2.2)], [], 0⟩ (an1 ob1) ?_
      rw [hC0] at h
      exact loopQ_normal (_, (n3 + 1), r11.1, r11.2.1, r11.2.2.1, r11.2.2.2.1, r11.2.2.2.2.1, r11.2.2.2.2.2.1, r11.2.2.2.2.2.2) (Le.mk rfl rfl ⟨.refl _, .refl _, .refl _, .refl _, trivial⟩ ⟨⟨_, rfl, .refl _⟩, ⟨_, rfl, .refl _⟩, ⟨_, rfl, .refl _⟩, ⟨_, rfl, .refl _⟩, ⟨_, rfl, .refl _⟩, ⟨_, rfl, .refl _⟩, ⟨_, rfl, .refl _⟩, ⟨_, rfl, .refl _⟩, trivial⟩) h (Nat.lt_succ_self _)
    ·
      replace h := ite_fb hc1 h
      refine AWp.exit ?_
      refine thenQ_exit ?_
      refine thenQ_exit ?_
      refine blockQ_same ?_
      exact joinQ_normal (l4, l5, l6, l7, l8, l9, l10) (Le.mk rfl rfl ⟨.refl _, trivial⟩ ⟨⟨_, rfl, .refl _⟩, ⟨_, rfl, .refl _⟩, ⟨_, rfl, .refl _⟩, ⟨_, rfl, .refl _⟩, ⟨_, rfl, .refl _⟩, ⟨_, rfl, .refl _⟩, ⟨_, rfl, .refl _⟩, ⟨_, rfl, .refl _⟩, trivial⟩) h
  ·
    rintro ⟨l12, l13, l14, l15, l16, l17, l18⟩ h
    replace h := (congrFun hK1 _).symm.trans h
    refine q1rq [] [] ⟨41, [(3, .ptr 3 0), (6, .nils)], [(3, .cells 115 (f14z0)), (6001, bP (V.int .i64) 0 m108 [] l12), (6002, bP (V.int .i64) 0 m109 false l13), (6003, bP mk110E q1dII m110 [] l14), (6004, bP (V.int .i64) 0 m111 0 l15), (6005, bP mk110E q1dII m110 [] l16), (6006, bP mk112E q1dIIS m112 false l17), (6007, bP mk113E q1dII m113 false l18)], [], 0⟩ trivial ?_
    refine AWp.block ?_
    refine AWp.loopL (α := Nat × (List (List UInt8))) (fun x => match x with | (_, l19) => ⟨41, (f14z2), [(3, .cells 115 (f14z0)), (5006, q1bS_9 l19), (6001, bP (V.int .i64) 0 m108 [] l12), (6002, bP (V.int .i64) 0 m109 false l13), (6003, bP mk110E q1dII m110 [] l14), (6004, bP (V.int .i64) 0 m111 0 l15), (6005, bP mk110E q1dII m110 [] l16), (6006, bP mk112E q1dIIS m112 false l17), (6007, bP mk113E q1dII m113 false l18)], [], 0⟩) (fun x => f14_L1 l12 l13 x.1 x.2 = some r) (fun x => x.1) (FUEL, []) (Le.trans (Le.trans (Le.nilOwn 6 5006 9 1 (encF eS [] []) rfl rfl (Nat.le_of_ble_eq_true rfl)) (Le.mk (s' := ⟨41, (f14z2), [(3, .cells 115 (f14z0)), (6001, bP (V.int .i64) 0 m108 [] l12), (6002, bP (V.int .i64) 0 m109 false l13), (6003, bP mk110E q1dII m110 [] l14), (6004, bP (V.int .i64) 0 m111 0 l15), (6005, bP mk110E q1dII m110 [] l16), (6006, bP mk112E q1dIIS m112 false l17), (6007, bP mk113E q1dII m113 false l18), (5006, q1bS_9 [])], [], 0⟩) rfl rfl ⟨.refl _, .refl _, trivial⟩ ⟨⟨_, rfl, .refl _⟩, ⟨_, rfl, .refl _⟩, ⟨_, rfl, .refl _⟩, ⟨_, rfl, .refl _⟩, ⟨_, rfl, .refl _⟩, ⟨_, rfl, .refl _⟩, ⟨_, rfl, .refl _⟩, ⟨_, rfl, .refl _⟩, ⟨_, rfl, .refl _⟩, trivial⟩)) (Le.mk (s' := ⟨41, (f14z2), [(3, .cells 115 (f14z0)), (5006, q1bS_9 []), (6001, bP (V.int .i64) 0 m108 [] l12), (6002, bP (V.int .i64) 0 m109 false l13), (6003, bP mk110E q1dII m110 [] l14), (6004, bP (V.int .i64) 0 m111 0 l15), (6005, bP mk110E q1dII m110 [] l16), (6006, bP mk112E q1dIIS m112 false l17), (6007, bP mk113E q1dII m113 false l18)], [], 0⟩) rfl rfl ⟨.refl _, .refl _, trivial⟩ ⟨⟨_, rfl, .refl _⟩, ⟨_, rfl, .refl _⟩, ⟨_, rfl, .refl _⟩, ⟨_, rfl, .refl _⟩, ⟨_, rfl, .refl _⟩, ⟨_, rfl, .refl _⟩, ⟨_, rfl, .refl _⟩, ⟨_, rfl, .refl _⟩, ⟨_, rfl, .refl _⟩, trivial⟩)) h ?_
    rintro ⟨k1, l19⟩ h
    cases k1 with
    | zero => exact nomatch (show (none : Option (List (List UInt8))) = some r from h)
    | succ k1 =>
    obtain ⟨C1, hC1⟩ : ∃ C, C = f14_L1 l12 l13 k1 := ⟨_, rfl⟩
    replace h := (f14_L1.eq_2 ..).symm.trans h
    try rw [← hC1] at h
    refine AWp.block ?_
    refine q1rq [] [(4, ⟨[.own 6001, .i (lZ l19)], [6001], [6001], [(6001, bP (V.int .i64) 0 m108 [] l12)], .tup [.str (gM l12 [] (lZ l19)), .bool (hM l12 (lZ l19))], [], [], []⟩)] ⟨41, [(3, .ptr 3 0), (6, .own 5006), (7, .str (gM l12 [] (lZ l19))), (8, .bool (hM l12 (lZ l19)))], [(3, .cells 115 (f14z0)), (5006, q1bS_9 l19), (6001, bP (V.int .i64) 0 m108 [] l12), (6002, bP (V.int .i64) 0 m109 false l13), (6003, bP mk110E q1dII m110 [] l14), (6004, bP (V.int .i64) 0 m111 0 l15), (6005, bP mk110E q1dII m110 [] l16), (6006, bP mk112E q1dIIS m112 false l17), (6007, bP mk113E q1dII m113 false l18)], [], 0⟩ (an1 (And.intro (lookP_spec (P := Tryz.prog) Tryz.underlying108 (V.int .i64) kE108 0 m108 [] [] (by kernel_rfl) (.tmp 21) (.tmp 23) 118 6001 l12 (lZ l19)) (VLes.same [.own 6001, .i (lZ l19)]))) ?_
    refine AWp.seq ?_
    refine AWp.seq ?_
    by_cases hg9_2 : (!(hM l12 (((l19).length : Nat) : Int))) = true
    ·
      replace h := ite_t hg9_2 h
      have ob2 := idA (false = true)
      have ob3 := idA (false = true)
      have ob4 : true = true → true = false → false = true := by first | decide | omega | simp | (intro h; cases h)
      refine q1rr [] [(2, ⟨[], [], [], [], (.bool true), [], [0], []⟩), (7, ⟨[], [], [], [], .bool (gM l13 false (lZ l19)), [], [], []⟩)] ⟨41, [(3, .ptr 3 0), (6, .own 5006), (7, .str (gM l12 [] (lZ l19))), (35, .bool true)], [(3, .cells 115 (f14z0)), (5006, q1bS_9 l19), (6001, bP (V.int .i64) 0 m108 [] l12), (6002, bP (V.int .i64) 0 m109 false l13), (6003, bP mk110E q1dII m110 [] l14), (6004, bP (V.int .i64) 0 m111 0 l15), (6005, bP mk110E q1dII m110 [] l16), (6006, bP mk112E q1dIIS m112 false l17), (6007, bP mk113E q1dII m113 false l18)], [], 0⟩ (an5 (show ((.bool (!(hM l12 (lZ l19)))) : V) = (.bool true) from (congrArg (fun x => ((.bool x) : V)) hg9_2)) (an1 ob2) (an1 ob3) trivial ob4) ?_
      refine thenQ_normal ?_
      refine AWp.cond (b := true) (by kernel_rfl) (fun hc => ?_) (fun hc => ?_)
      ·
        clear hc
        refine q1rq [] [] ⟨41, [(2, .own 5006)], [(5006, q1bS_9 l19)], [], 0⟩ trivial ?_
        refine AWp.le (Le.trans (Le.ren (swapN 5006 3000) (swapN_inv 5006 3000) rfl) (Le.mk (s' := ⟨41, [(2, .own 3000)], [(3000, q1bS_9 l19)], [], 0⟩) rfl rfl ⟨.refl _, trivial⟩ ⟨⟨_, rfl, .refl _⟩, trivial⟩)) ?_
        have hret := Option.some.inj h
        subst hret
        refine AWp.le (Le.mk (s' := ⟨41, [(2, .own 3000)], [(3000, q1bS_9 l19)], [], 0⟩) rfl rfl ⟨.refl _, trivial⟩ ⟨⟨_, rfl, .refl _⟩, trivial⟩) ?_
        refine AWp.ret ?_
        refine thenQ_ret ?_
        refine blockQ_ret ?_
        refine thenQ_ret ?_
        refine blockQ_ret ?_
        exact bodyQ_ret _ rfl ⟨rfl, rfl⟩ rfl
      ·
        cases hc
    ·
      replace h := ite_f hg9_2 h
      have ob2 := idA (true = true)
      have ob3 := idA (true = true)
      have ob4 := idA (true = true)
      have ob5 := idA (true = true)
      refine q1rr [] [(2, ⟨[], [], [], [], (.bool false), [], [0], []⟩), (7, ⟨[.own 6002, .i (lZ l19)], [6002], [6002], [(6002, bP (V.int .i64) 0 m109 false l13)], .bool (gM l13 false (lZ l19)), [], [], []⟩)] ⟨41, [(3, .ptr 3 0), (6, .own 5006), (7, .str (gM l12 [] (lZ l19))), (35, .bool (gM l13 false (lZ l19)))], [(3, .cells 115 (f14z0)), (5006, q1bS_9 l19), (6001, bP (V.int .i64) 0 m108 [] l12), (6002, bP (V.int .i64) 0 m109 false l13), (6003, bP mk110E q1dII m110 [] l14), (6004, bP (V.int .i64) 0 m111 0 l15), (6005, bP mk110E q1dII m110 [] l16), (6006, bP mk112E q1dIIS m112 false l17), (6007, bP mk113E q1dII m113 false l18)], [], 0⟩ (an5 (show ((.bool (!(hM l12 (lZ l19)))) : V) = (.bool false) from (congrArg (fun x => ((.bool x) : V)) (Bool.eq_false_iff.2 hg9_2))) (an1 ob2) (an1 ob3) (And.intro (And.intro (lookP1_spec (P := Tryz.prog) Tryz.underlying109 (V.int .i64) kE109 0 m109 false false (by kernel_rfl) (.tmp 31) (.tmp 33) 4 6002 l13 (lZ l19)) (VLes.same [.own 6002, .i (lZ l19)])) (an2 ob4 ob5)) trivial) ?_
      refine thenQ_normal ?_
      refine AWp.cond (b := (gM l13 false (lZ l19))) (by kernel_rfl) (fun hc3 => ?_) (fun hc3 => ?_)
      ·
        replace h := ite_tb hc3 h
        refine q1rq [] [] ⟨41, [(2, .own 5006)], [(5006, q1bS_9 l19)], [], 0⟩ trivial ?_
        refine AWp.le (Le.trans (Le.ren (swapN 5006 3000) (swapN_inv 5006 3000) rfl) (Le.mk (s' := ⟨41, [(2, .own 3000)], [(3000, q1bS_9 l19)], [], 0⟩) rfl rfl ⟨.refl _, trivial⟩ ⟨⟨_, rfl, .refl _⟩, trivial⟩)) ?_
        have hret := Option.some.inj h
        subst hret
        refine AWp.le (Le.mk (s' := ⟨41, [(2, .own 3000)], [(3000, q1bS_9 l19)], [], 0⟩) rfl rfl ⟨.refl _, trivial⟩ ⟨⟨_, rfl, .refl _⟩, trivial⟩) ?_
        refine AWp.ret ?_
        refine thenQ_ret ?_
        refine blockQ_ret ?_
        refine thenQ_ret ?_
        refine blockQ_ret ?_
        exact bodyQ_ret _ rfl ⟨rfl, rfl⟩ rfl
      ·
        replace h := ite_fb hc3 h
        refine AWp.skip ?_
        refine thenQ_normal ?_
        obtain ⟨ob6, h⟩ := chk_some h
        refine q1rr [] [] ⟨41, (f14z2), [(3, .cells 115 (f14z0)), (5006, .rows 9 1 ((l19).length + 1) (appF (l19).length (encF eS [] l19) (lstF 1 [.str (gM l12 [] (lZ l19))]))), (6001, bP (V.int .i64) 0 m108 [] l12), (6002, bP (V.int .i64) 0 m109 false l13), (6003, bP mk110E q1dII m110 [] l14), (6004, bP (V.int .i64) 0 m111 0 l15), (6005, bP mk110E q1dII m110 [] l16), (6006, bP mk112E q1dIIS m112 false l17), (6007, bP mk113E q1dII m113 false l18)], [], 0⟩ (an1 ob6) ?_
        refine blockQ_normal ?_
        rw [hC1] at h
        exact loopQ_normal (_, (l19 ++ [(gM l12 [] (lZ l19))])) (Le.trans (Le.mk (s' := ⟨41, (f14z2), [(3, .cells 115 (f14z0)), (5006, q1bS_9 (l19 ++ [(gM l12 [] (lZ l19))])), (6001, bP (V.int .i64) 0 m108 [] l12), (6002, bP (V.int .i64) 0 m109 false l13), (6003, bP mk110E q1dII m110 [] l14), (6004, bP (V.int .i64) 0 m111 0 l15), (6005, bP mk110E q1dII m110 [] l16), (6006, bP mk112E q1dIIS m112 false l17), (6007, bP mk113E q1dII m113 false l18)], [], 0⟩) rfl rfl ⟨.refl _, .refl _, trivial⟩ ⟨⟨_, rfl, .refl _⟩, ⟨_, rfl, (BLe.of (RL.app (RL.self _) (RL.lst (enc := eS) [(gM l12 [] (lZ l19))] rfl rfl (fun _ => rfl))))⟩, ⟨_, rfl, .refl _⟩, ⟨_, rfl, .refl _⟩, ⟨_, rfl, .refl _⟩, ⟨_, rfl, .refl _⟩, ⟨_, rfl, .refl _⟩, ⟨_, rfl, .refl _⟩, ⟨_, rfl, .refl _⟩, trivial⟩) (Le.mk rfl rfl ⟨.refl _, .refl _, trivial⟩ ⟨⟨_, rfl, .refl _⟩, ⟨_, rfl, .refl _⟩, ⟨_, rfl, .refl _⟩, ⟨_, rfl, .refl _⟩, ⟨_, rfl, .refl _⟩, ⟨_, rfl, .refl _⟩, ⟨_, rfl, .refl _⟩, ⟨_, rfl, .refl _⟩, ⟨_, rfl, .refl _⟩, trivial⟩)) h (Nat.lt_succ_self _)
def f15_L0 (x1 : List (List UInt8)) (x2 : List (List UInt8)) (K1 : Unit → Option Bool) : Nat → Nat → Option Bool
  | 0, _ => none
  | k + 1, n3 =>
    if (decide ((n3 : Int) < (((x1).length : Nat) : Int))) then (
    chk ((n3 : Int) < (((x1).length : Nat) : Int)) <|
    chk ((n3 : Int) < (((x2).length : Nat) : Int)) <|
    if (!((x1.getD n3 []) == (x2.getD n3 []))) then (
    some false
    ) else (
    chk (((n3 : Int) + (1 : Int)) ≤ 9223372036854775807) <|
    (f15_L0 x1 x2 K1 k) (n3 + 1)
    )
    ) else (
    K1 ()
    )
def f15 (x1 : List (List UInt8)) (x2 : List (List UInt8)) : Option Bool :=
  if ((((x1).length : Nat) : Int) != (((x2).length : Nat) : Int)) then (
  some false
  ) else (
  jn (fun (_ : Unit) =>
  some true
  ) fun (K1 : Unit → Option Bool) =>
  f15_L0 x1 x2 K1 FUEL 0
  )
set_option maxRecDepth 100000 in
theorem f15_ok  (x1 : List (List UInt8)) (x2 : List (List UInt8)) (r : Bool) (h : f15 x1 x2 = some r)  : Spec1 Tryz.prog 15 [] [] [] [vL 1 eS [] x1, vL 1 eS [] x2] (.bool r) [] := by
  unfold f15 at h
  refine Spec1.body 0 _ _ Tryz.func15 rfl Tryz.ntmps15 rfl rfl ?_
  refine q1rq [] [] ⟨26, [(0, q1aS x1), (1, q1aS x2)], [], [], 0⟩ trivial ?_
  refine AWp.seq ?_
  refine q1rq [] [] ⟨26, [(0, q1aS x1), (1, q1aS x2), (10, .bool ((lZ x1) != (lZ x2)))], [], [], 0⟩ trivial ?_
  refine AWp.cond (b := ((lZ x1) != (lZ x2))) (by kernel_rfl) (fun hc1 => ?_) (fun hc1 => ?_)
  ·
    replace h := ite_tb hc1 h
    refine q1rq [] [] ⟨26, [(4, .bool false)], [], [], 0⟩ trivial ?_
    have hret := Option.some.inj h
    subst hret
    refine AWp.le (Le.mk (s' := ⟨26, [(4, .bool false)], [], [], 0⟩) rfl rfl ⟨.refl _, trivial⟩ trivial) ?_
    refine AWp.ret ?_
    refine thenQ_ret ?_
    exact bodyQ_ret _ rfl ⟨rfl, rfl⟩ rfl
  ·
    replace h := ite_fb hc1 h
    refine AWp.skip ?_
    refine thenQ_normal ?_
    obtain ⟨K1, hK1, h⟩ := jn_some h
    refine AWp.join (α := Unit) (fun (x : Unit) => match x with | () => ⟨26, [], [], [], 0⟩) (fun x => K1 x = some r) ?_ ?_
    ·
      refine q1rq [] [] ⟨26, [(0, q1aS x1), (1, q1aS x2), (5, .i (0 : Int))], [], [], 0⟩ trivial ?_
      refine AWp.block ?_
      refine AWp.loopL (α := Nat × Nat) (fun x => match x with | (_, n3) => ⟨26, [(0, q1aS x1), (1, q1aS x2), (5, .i (n3 : Int))], [], [], 0⟩) (fun x => f15_L0 x1 x2 K1 x.1 x.2 = some r) (fun x => x.1) (FUEL, 0) (Le.mk (s' := ⟨26, [(0, q1aS x1), (1, q1aS x2), (5, .i (0 : Int))], [], [], 0⟩) rfl rfl ⟨.refl _, .refl _, .refl _, trivial⟩ trivial) h ?_
      rintro ⟨k0, n3⟩ h
      cases k0 with
      | zero => exact nomatch (show (none : Option Bool) = some r from h)
      | succ k0 =>
      obtain ⟨C0, hC0⟩ : ∃ C, C = f15_L0 x1 x2 K1 k0 := ⟨_, rfl⟩
      replace h := (f15_L0.eq_2 ..).symm.trans h
      try rw [← hC0] at h
      refine AWp.seq ?_
      refine q1rq [] [] ⟨26, [(0, q1aS x1), (1, q1aS x2), (5, .i (n3 : Int)), (14, .bool (decide ((n3 : Int) < (lZ x1))))], [], [], 0⟩ trivial ?_
      refine AWp.cond (b := (decide ((n3 : Int) < (lZ x1)))) (by kernel_rfl) (fun hc2 => ?_) (fun hc2 => ?_)
      ·
        replace h := ite_tb hc2 h
        refine AWp.skip ?_
        refine thenQ_normal ?_
        refine AWp.seq ?_
        refine AWp.block ?_
        refine AWp.seq ?_
        obtain ⟨ob0p, h⟩ := chk_some h
        have ob0 : 0 ≤ (n3 : Int) ∧ (n3 : Int) < (((x1).length : Nat) : Int) := ⟨by omega, ob0p⟩
        obtain ⟨ob1p, h⟩ := chk_some h
        have ob1 : 0 ≤ (n3 : Int) ∧ (n3 : Int) < (((x2).length : Nat) : Int) := ⟨by omega, ob1p⟩
        refine q1rr [] [] ⟨26, [(0, q1aS x1), (1, q1aS x2), (5, .i (n3 : Int)), (25, .bool (!((x1.getD n3 []) == (x2.getD n3 []))))], [], [], 0⟩ (an2 ob0 ob1) ?_
        refine thenQ_normal ?_
        refine AWp.cond (b := (!((x1.getD n3 []) == (x2.getD n3 [])))) (by kernel_rfl) (fun hc3 => ?_) (fun hc3 => ?_)
        ·
          replace h := ite_tb hc3 h
          refine q1rq [] [] ⟨26, [(4, .bool false)], [], [], 0⟩ trivial ?_
          have hret := Option.some.inj h
          subst hret
          refine AWp.le (Le.mk (s' := ⟨26, [(4, .bool false)], [], [], 0⟩) rfl rfl ⟨.refl _, trivial⟩ trivial) ?_
          refine AWp.ret ?_
          refine blockQ_ret ?_
          refine thenQ_ret ?_
          refine thenQ_ret ?_
          refine blockQ_ret ?_
          refine joinQ_ret ?_
          exact bodyQ_ret _ rfl ⟨rfl, rfl⟩ rfl
        ·
          replace h := ite_fb hc3 h
          refine AWp.skip ?_
          refine blockQ_normal ?_
          refine thenQ_normal ?_
          obtain ⟨ob2p, h⟩ := chk_some h
          have ob2 : -9223372036854775808 ≤ ((n3 : Int) + (1 : Int)) ∧ ((n3 : Int) + (1 : Int)) ≤ 9223372036854775807 := ⟨by omega, ob2p⟩
          refine q1rr [] [] ⟨26, [(0, q1aS x1), (1, q1aS x2), (5, .i (((n3 + 1) : Nat) : Int))], [], [], 0⟩ (an1 ob2) ?_
          rw [hC0] at h
          exact loopQ_normal (_, (n3 + 1)) (Le.mk rfl rfl ⟨.refl _, .refl _, .refl _, trivial⟩ trivial) h (Nat.lt_succ_self _)
      ·
        replace h := ite_fb hc2 h
        refine AWp.exit ?_
        refine thenQ_exit ?_
        refine thenQ_exit ?_
        refine blockQ_same ?_
        exact joinQ_normal () (Le.mk rfl rfl trivial trivial) h
    ·
      rintro ⟨⟩ h
      replace h := (congrFun hK1 _).symm.trans h
      refine q1rq [] [] ⟨26, [(4, .bool true)], [], [], 0⟩ trivial ?_
      have hret := Option.some.inj h
      subst hret
      refine AWp.le (Le.mk (s' := ⟨26, [(4, .bool true)], [], [], 0⟩) rfl rfl ⟨.refl _, trivial⟩ trivial) ?_
      refine AWp.ret ?_
      exact bodyQ_ret _ rfl ⟨rfl, rfl⟩ rfl
abbrev f11z0 (r1 : Int × Int × Int × Int) (r2 : Int × Int × Int) := ((((r1.2.2.2 == (0 : Int)) && ((r1.1 == (0 : Int)) && ((r1.2.1 == (0 : Int)) && ((r1.2.2.1 == (12 : Int)) && true)))) && (r2.2.2 == (0 : Int))) && (r2.1 == (1 : Int)))
abbrev f11z1 (r1 : Int × Int × Int × Int) (r2 : Int × Int × Int) (r3 : Int × Int × Int) (r4 : Int × Int × Int) := ((((f11z0 r1 r2) && (r2.2.1 == (1 : Int))) && (r3.2.2 == (13 : Int))) && (r4.2.2 == (0 : Int)))
abbrev f11z2 (r1 : Int × Int × Int × Int) := ((r1.2.2.2 == (0 : Int)) && ((r1.1 == (0 : Int)) && ((r1.2.1 == (0 : Int)) && ((r1.2.2.1 == (12 : Int)) && true))))
abbrev f11z3 := ([118] : List UInt8)
abbrev f11z4 := ([119] : List UInt8)
abbrev f11z5 (r1 : Int × Int × Int × Int) (r2 : Int × Int × Int) (r3 : Int × Int × Int) (r4 : Int × Int × Int) := ((f11z1 r1 r2 r3 r4) && (r4.2.1 == (3 : Int)))
abbrev f11z6 (r1 : Int × Int × Int × Int) (r2 : Int × Int × Int) := ((f11z0 r1 r2) && (r2.2.1 == (1 : Int)))
abbrev f11z7 (r1 : Int × Int × Int × Int) : List V := [.int .i64 r1.1, .int .i64 r1.2.1, .int .i64 r1.2.2.1]
abbrev f11z8 (r1 : Int × Int × Int × Int) := ((r1.2.2.2 == (0 : Int)) == true)
abbrev f11z9 := (List (BitVec 16 × BitVec 16))
abbrev f11z10 (r1 : Int × Int × Int × Int) (r2 : Int × Int × Int) := (((f11z2 r1) && (r2.2.2 == (0 : Int))) == true)
abbrev f11z11 (r1 : Int × Int × Int × Int) (r2 : Int × Int × Int) (r3 : Int × Int × Int) := (((f11z6 r1 r2) && (r3.2.2 == (13 : Int))) == true)
def f11  : Option Bool :=
  (f22 ([(((0 : Int), (4 : Int), (0 : Int), (0 : Int), (0 : Int), ([118] : List UInt8), []) : Y51), (((0 : Int), (3 : Int), (0 : Int), (0 : Int), (0 : Int), ([119] : List UInt8), []) : Y51)])).bind fun (r1 : Int × Int × Int × Int) =>
  (f13 [] [] (BitVec.ofInt 16 0) [] [] [] ([(((0 : Int), (4 : Int), (0 : Int), (0 : Int), (0 : Int), ([118] : List UInt8), []) : Y51), (((0 : Int), (3 : Int), (0 : Int), (0 : Int), (0 : Int), ([119] : List UInt8), []) : Y51)])).bind fun (r2 : Int × Int × Int) =>
  chk ((0 : Int) < ((([(((0 : Int), (4 : Int), (0 : Int), (0 : Int), (0 : Int), ([118] : List UInt8), []) : Y51), (((0 : Int), (3 : Int), (0 : Int), (0 : Int), (0 : Int), ([119] : List UInt8), []) : Y51)]).length : Nat) : Int)) <|
  chk (0 < ([(((0 : Int), (4 : Int), (0 : Int), (0 : Int), (0 : Int), ([118] : List UInt8), []) : Y51), (((0 : Int), (3 : Int), (0 : Int), (0 : Int), (0 : Int), ([119] : List UInt8), []) : Y51)]).length) <|
  (f13 [] [] (BitVec.ofInt 16 0) [] [] [] ([(((([(((0 : Int), (4 : Int), (0 : Int), (0 : Int), (0 : Int), ([118] : List UInt8), []) : Y51), (((0 : Int), (3 : Int), (0 : Int), (0 : Int), (0 : Int), ([119] : List UInt8), []) : Y51)]).getD 0 (default : Y51)).1, (([(((0 : Int), (4 : Int), (0 : Int), (0 : Int), (0 : Int), ([118] : List UInt8), []) : Y51), (((0 : Int), (3 : Int), (0 : Int), (0 : Int), (0 : Int), ([119] : List UInt8), []) : Y51)]).getD 0 (default : Y51)).2.1, (([(((0 : Int), (4 : Int), (0 : Int), (0 : Int), (0 : Int), ([118] : List UInt8), []) : Y51), (((0 : Int), (3 : Int), (0 : Int), (0 : Int), (0 : Int), ([119] : List UInt8), []) : Y51)]).getD 0 (default : Y51)).2.2.1, (([(((0 : Int), (4 : Int), (0 : Int), (0 : Int), (0 : Int), ([118] : List UInt8), []) : Y51), (((0 : Int), (3 : Int), (0 : Int), (0 : Int), (0 : Int), ([119] : List UInt8), []) : Y51)]).getD 0 (default : Y51)).2.2.2.1, (([(((0 : Int), (4 : Int), (0 : Int), (0 : Int), (0 : Int), ([118] : List UInt8), []) : Y51), (((0 : Int), (3 : Int), (0 : Int), (0 : Int), (0 : Int), ([119] : List UInt8), []) : Y51)]).getD 0 (default : Y51)).2.2.2.2.1, (([(((0 : Int), (4 : Int), (0 : Int), (0 : Int), (0 : Int), ([118] : List UInt8), []) : Y51), (((0 : Int), (3 : Int), (0 : Int), (0 : Int), (0 : Int), ([119] : List UInt8), []) : Y51)]).getD 0 (default : Y51)).2.2.2.2.2.1, (([(((0 : Int), (4 : Int), (0 : Int), (0 : Int), (0 : Int), ([118] : List UInt8), []) : Y51), (((0 : Int), (3 : Int), (0 : Int), (0 : Int), (0 : Int), ([119] : List UInt8), []) : Y51)]).getD 0 (default : Y51)).2.2.2.2.2.2) : Y51), (((0 : Int), (3 : Int), (0 : Int), (0 : Int), (0 : Int), ([118] : List UInt8), []) : Y51)])).bind fun (r3 : Int × Int × Int) =>
  (f13 [] [] (BitVec.ofInt 16 0) [] [] [] ([(((0 : Int), (2 : Int), (0 : Int), (0 : Int), (1 : Int), [], ([111, 107, 32, 49] : List UInt8)) : Y51)])).bind fun (r4 : Int × Int × Int) =>
  (f13 [] [] (BitVec.ofInt 16 0) [] [] [] ([(((0 : Int), (3 : Int), (0 : Int), (1 : Int), (0 : Int), ([118] : List UInt8), []) : Y51)])).bind fun (r5 : Int × Int × Int) =>
  if ((((((((((r1.2.2.2 == (0 : Int)) && ((r1.1 == (0 : Int)) && ((r1.2.1 == (0 : Int)) && ((r1.2.2.1 == (12 : Int)) && true)))) && (r2.2.2 == (0 : Int))) && (r2.1 == (1 : Int))) && (r2.2.1 == (1 : Int))) && (r3.2.2 == (13 : Int))) && (r4.2.2 == (0 : Int))) && (r4.2.1 == (3 : Int))) && (r5.2.2 == (0 : Int))) && (r5.2.1 == (2 : Int))) = true then (
  (f14 ([(((([(((0 : Int), (4 : Int), (0 : Int), (0 : Int), (0 : Int), ([118] : List UInt8), []) : Y51), (((0 : Int), (3 : Int), (0 : Int), (0 : Int), (0 : Int), ([119] : List UInt8), []) : Y51)]).getD 0 (default : Y51)).1, (([(((0 : Int), (4 : Int), (0 : Int), (0 : Int), (0 : Int), ([118] : List UInt8), []) : Y51), (((0 : Int), (3 : Int), (0 : Int), (0 : Int), (0 : Int), ([119] : List UInt8), []) : Y51)]).getD 0 (default : Y51)).2.1, (([(((0 : Int), (4 : Int), (0 : Int), (0 : Int), (0 : Int), ([118] : List UInt8), []) : Y51), (((0 : Int), (3 : Int), (0 : Int), (0 : Int), (0 : Int), ([119] : List UInt8), []) : Y51)]).getD 0 (default : Y51)).2.2.1, (([(((0 : Int), (4 : Int), (0 : Int), (0 : Int), (0 : Int), ([118] : List UInt8), []) : Y51), (((0 : Int), (3 : Int), (0 : Int), (0 : Int), (0 : Int), ([119] : List UInt8), []) : Y51)]).getD 0 (default : Y51)).2.2.2.1, (([(((0 : Int), (4 : Int), (0 : Int), (0 : Int), (0 : Int), ([118] : List UInt8), []) : Y51), (((0 : Int), (3 : Int), (0 : Int), (0 : Int), (0 : Int), ([119] : List UInt8), []) : Y51)]).getD 0 (default : Y51)).2.2.2.2.1, (([(((0 : Int), (4 : Int), (0 : Int), (0 : Int), (0 : Int), ([118] : List UInt8), []) : Y51), (((0 : Int), (3 : Int), (0 : Int), (0 : Int), (0 : Int), ([119] : List UInt8), []) : Y51)]).getD 0 (default : Y51)).2.2.2.2.2.1, (([(((0 : Int), (4 : Int), (0 : Int), (0 : Int), (0 : Int), ([118] : List UInt8), []) : Y51), (((0 : Int), (3 : Int), (0 : Int), (0 : Int), (0 : Int), ([119] : List UInt8), []) : Y51)]).getD 0 (default : Y51)).2.2.2.2.2.2) : Y51), (((0 : Int), (3 : Int), (0 : Int), (0 : Int), (0 : Int), ([118] : List UInt8), []) : Y51)])).bind fun (r6 : List (List UInt8)) =>
  (f15 r6 ([([118] : List UInt8)])).bind fun (r7 : Bool) =>
  some r7
  ) else (
  some false
  )
end Go.Abs
