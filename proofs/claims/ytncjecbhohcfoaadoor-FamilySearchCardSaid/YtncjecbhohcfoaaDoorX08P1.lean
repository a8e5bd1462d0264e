import Derived.Test.YtncjecbhohcfoaaDoorAbsX
import Derived.Test.YtncjecbhohcfoaaDoorCmp08

namespace Go.Abs
open Go Go.Proofs
set_option maxHeartbeats 4000000
theorem Tryd_mixed : Tryd.prog.follows .mixedOrders = true := by kernel_rfl
def T0 : List Nat := [0, 1, 28, 2, 29, 14, 24, 3, 30, 22, 20, 15, 25, 17, 4, 8, 31, 27, 13, 23, 21, 19, 16, 7, 26, 12, 18, 6, 11, 5, 10, 9]
def T0F : Nat → Nat → V := fun _ j => .int .u8 ((T0.getD j 0 : Nat) : Int)
def T3 : List Nat := [0, 1, 56, 2, 57, 49, 28, 3, 61, 58, 42, 50, 38, 29, 17, 4, 62, 47, 59, 36, 45, 43, 51, 22, 53, 39, 33, 30, 24, 18, 12, 5, 63, 55, 48, 27, 60, 41, 37, 16, 46, 35, 44, 21, 52, 32, 23, 11, 54, 26, 40, 15, 34, 20, 31, 10, 25, 14, 19, 9, 13, 8, 7, 6]
def T2 : List Nat := [1, 10, 100, 1000, 10000, 100000, 1000000, 10000000, 100000000, 1000000000, 10000000000, 100000000000, 1000000000000, 10000000000000, 100000000000000, 1000000000000000, 10000000000000000, 100000000000000000, 1000000000000000000, 10000000000000000000]
def T2F : Nat → Nat → V := fun _ j => .int .u64 ((T2.getD j 0 : Nat) : Int)
def eW (x : BitVec 16) : List V := [.b16 x]
theorem eW_flat (x : BitVec 16) (j : Nat) : ((eW x).getD j .any).flat = true := by
  match j with
  | 0 => rfl
  | _ + 1 => rfl
def cs0 : List UInt8 := [0, 1, 1, 2, 1, 2, 2, 3, 1, 2, 2, 3, 2, 3, 3, 4, 1, 2, 2, 3, 2, 3, 3, 4, 2, 3, 3, 4, 3, 4, 4, 5, 1, 2, 2, 3, 2, 3, 3, 4, 2, 3, 3, 4, 3, 4, 4, 5, 2, 3, 3, 4, 3, 4, 4, 5, 3, 4, 4, 5, 4, 5, 5, 6, 1, 2, 2, 3, 2, 3, 3, 4, 2, 3, 3, 4, 3, 4, 4, 5, 2, 3, 3, 4, 3, 4, 4, 5, 3, 4, 4, 5, 4, 5, 5, 6, 2, 3, 3, 4, 3, 4, 4, 5, 3, 4, 4, 5, 4, 5, 5, 6, 3, 4, 4, 5, 4, 5, 5, 6, 4, 5, 5, 6, 5, 6, 6, 7, 1, 2, 2, 3, 2, 3, 3, 4, 2, 3, 3, 4, 3, 4, 4, 5, 2, 3, 3, 4, 3, 4, 4, 5, 3, 4, 4, 5, 4, 5, 5, 6, 2, 3, 3, 4, 3, 4, 4, 5, 3, 4, 4, 5, 4, 5, 5, 6, 3, 4, 4, 5, 4, 5, 5, 6, 4, 5, 5, 6, 5, 6, 6, 7, 2, 3, 3, 4, 3, 4, 4, 5, 3, 4, 4, 5, 4, 5, 5, 6, 3, 4, 4, 5, 4, 5, 5, 6, 4, 5, 5, 6, 5, 6, 6, 7, 3, 4, 4, 5, 4, 5, 5, 6, 4, 5, 5, 6, 5, 6, 6, 7, 4, 5, 5, 6, 5, 6, 6, 7, 5, 6, 6, 7, 6, 7, 7, 8]
def eI (x : Int) : List V := [.int .i64 x]
def eB (x : Bool) : List V := [.bool x]
def eLWJ (x : List (BitVec 16)) : List V := [vL 1 eW 0#16 x]
def cs1 : List UInt8 := [48, 49, 50, 51, 52, 53, 54, 55, 56, 57, 97, 98, 99, 100, 101, 102, 103, 104, 105, 106, 107, 108, 109, 110, 111, 112, 113, 114, 115, 116, 117, 118, 119, 120, 121, 122]
def cs2 : List UInt8 := [48, 48, 48, 49, 48, 50, 48, 51, 48, 52, 48, 53, 48, 54, 48, 55, 48, 56, 48, 57, 49, 48, 49, 49, 49, 50, 49, 51, 49, 52, 49, 53, 49, 54, 49, 55, 49, 56, 49, 57, 50, 48, 50, 49, 50, 50, 50, 51, 50, 52, 50, 53, 50, 54, 50, 55, 50, 56, 50, 57, 51, 48, 51, 49, 51, 50, 51, 51, 51, 52, 51, 53, 51, 54, 51, 55, 51, 56, 51, 57, 52, 48, 52, 49, 52, 50, 52, 51, 52, 52, 52, 53, 52, 54, 52, 55, 52, 56, 52, 57, 53, 48, 53, 49, 53, 50, 53, 51, 53, 52, 53, 53, 53, 54, 53, 55, 53, 56, 53, 57, 54, 48, 54, 49, 54, 50, 54, 51, 54, 52, 54, 53, 54, 54, 54, 55, 54, 56, 54, 57, 55, 48, 55, 49, 55, 50, 55, 51, 55, 52, 55, 53, 55, 54, 55, 55, 55, 56, 55, 57, 56, 48, 56, 49, 56, 50, 56, 51, 56, 52, 56, 53, 56, 54, 56, 55, 56, 56, 56, 57, 57, 48, 57, 49, 57, 50, 57, 51, 57, 52, 57, 53, 57, 54, 57, 55, 57, 56, 57, 57]
def cs3 : List UInt8 := [0, 1, 2, 2, 3, 3, 3, 3, 4, 4, 4, 4, 4, 4, 4, 4, 5, 5, 5, 5, 5, 5, 5, 5, 5, 5, 5, 5, 5, 5, 5, 5, 6, 6, 6, 6, 6, 6, 6, 6, 6, 6, 6, 6, 6, 6, 6, 6, 6, 6, 6, 6, 6, 6, 6, 6, 6, 6, 6, 6, 6, 6, 6, 6, 7, 7, 7, 7, 7, 7, 7, 7, 7, 7, 7, 7, 7, 7, 7, 7, 7, 7, 7, 7, 7, 7, 7, 7, 7, 7, 7, 7, 7, 7, 7, 7, 7, 7, 7, 7, 7, 7, 7, 7, 7, 7, 7, 7, 7, 7, 7, 7, 7, 7, 7, 7, 7, 7, 7, 7, 7, 7, 7, 7, 7, 7, 7, 7, 8, 8, 8, 8, 8, 8, 8, 8, 8, 8, 8, 8, 8, 8, 8, 8, 8, 8, 8, 8, 8, 8, 8, 8, 8, 8, 8, 8, 8, 8, 8, 8, 8, 8, 8, 8, 8, 8, 8, 8, 8, 8, 8, 8, 8, 8, 8, 8, 8, 8, 8, 8, 8, 8, 8, 8, 8, 8, 8, 8, 8, 8, 8, 8, 8, 8, 8, 8, 8, 8, 8, 8, 8, 8, 8, 8, 8, 8, 8, 8, 8, 8, 8, 8, 8, 8, 8, 8, 8, 8, 8, 8, 8, 8, 8, 8, 8, 8, 8, 8, 8, 8, 8, 8, 8, 8, 8, 8, 8, 8, 8, 8, 8, 8, 8, 8, 8, 8, 8, 8, 8, 8, 8, 8, 8, 8, 8, 8]
def eS (x : List UInt8) : List V := [.str x]
def cs4 : List UInt8 := [123, 48, 32, 49, 32, 51, 125, 32, 123, 48, 32, 50, 32, 51, 125, 32, 123, 49, 32, 50, 32, 51, 125]
def f82 (x1 : BitVec 16) : Option Int :=
  chk ((((x1 >>> 8).toNat : Nat) : Int) < ((cs0.length : Nat) : Int)) <|
  chk ((((x1 &&& (BitVec.ofInt 16 255)).toNat : Nat) : Int) < ((cs0.length : Nat) : Int)) <|
  chk (((((cs0.getD ((x1 >>> 8).toNat) 0).toNat : Nat) : Int) + (((cs0.getD ((x1 &&& (BitVec.ofInt 16 255)).toNat) 0).toNat : Nat) : Int)) ≤ 255) <|
  chk (((((cs0.getD ((x1 >>> 8).toNat) 0).toNat + (cs0.getD ((x1 &&& (BitVec.ofInt 16 255)).toNat) 0).toNat) : Nat) : Int) ≤ 9223372036854775807) <|
  some ((((cs0.getD ((x1 >>> 8).toNat) 0).toNat + (cs0.getD ((x1 &&& (BitVec.ofInt 16 255)).toNat) 0).toNat) : Nat) : Int)
set_option maxRecDepth 100000 in
theorem f82_ok  (x1 : BitVec 16) (r : Int) (h : f82 x1 = some r)  : Spec1 Tryd.prog 82 [] [] [] [.b16 x1] (.int .i64 r) [] := by
  unfold f82 at h
  refine Spec1.body 0 _ _ Tryd.func82 rfl Tryd.ntmps82 rfl rfl ?_
  refine AWp.seq ?_
  refine AWp.regC [] [] [0] [] ⟨11, [(0, .b16 x1)], [], [], 0⟩ (True) Tryd_mixed (by kernel_rfl) trivial ?_
  refine thenQ_normal ?_
  refine AWp.seq ?_
  have ob0 : 0 ≤ (8 : Int) := by first | decide | omega | simp | (intro h; cases h)
  obtain ⟨ob1p, h⟩ := chk_some h
  have ob1 : 0 ≤ (((x1 >>> 8).toNat : Nat) : Int) ∧ (((x1 >>> 8).toNat : Nat) : Int) < ((cs0.length : Nat) : Int) := ⟨by omega, ob1p⟩
  obtain ⟨ob2p, h⟩ := chk_some h
  have ob2 : 0 ≤ (((x1 &&& (BitVec.ofInt 16 255)).toNat : Nat) : Int) ∧ (((x1 &&& (BitVec.ofInt 16 255)).toNat : Nat) : Int) < ((cs0.length : Nat) : Int) := ⟨by omega, ob2p⟩
  obtain ⟨ob3p, h⟩ := chk_some h
  have ob3 : 0 ≤ ((((cs0.getD ((x1 >>> 8).toNat) 0).toNat : Nat) : Int) + (((cs0.getD ((x1 &&& (BitVec.ofInt 16 255)).toNat) 0).toNat : Nat) : Int)) ∧ ((((cs0.getD ((x1 >>> 8).toNat) 0).toNat : Nat) : Int) + (((cs0.getD ((x1 &&& (BitVec.ofInt 16 255)).toNat) 0).toNat : Nat) : Int)) ≤ 255 := ⟨by omega, ob3p⟩
  obtain ⟨ob4p, h⟩ := chk_some h
  have ob4 : -9223372036854775808 ≤ ((((cs0.getD ((x1 >>> 8).toNat) 0).toNat + (cs0.getD ((x1 &&& (BitVec.ofInt 16 255)).toNat) 0).toNat) : Nat) : Int) ∧ ((((cs0.getD ((x1 >>> 8).toNat) 0).toNat + (cs0.getD ((x1 &&& (BitVec.ofInt 16 255)).toNat) 0).toNat) : Nat) : Int) ≤ 9223372036854775807 := ⟨by omega, ob4p⟩
  refine AWp.regC [] [] [2] [] ⟨11, [(2, .int .i64 ((((cs0.getD ((x1 >>> 8).toNat) 0).toNat + (cs0.getD ((x1 &&& (BitVec.ofInt 16 255)).toNat) 0).toNat) : Nat) : Int))], [], [], 0⟩ ((0 ≤ (8 : Int)) ∧ (0 ≤ (((x1 >>> 8).toNat : Nat) : Int) ∧ (((x1 >>> 8).toNat : Nat) : Int) < ((cs0.length : Nat) : Int)) ∧ (0 ≤ (((x1 &&& (BitVec.ofInt 16 255)).toNat : Nat) : Int) ∧ (((x1 &&& (BitVec.ofInt 16 255)).toNat : Nat) : Int) < ((cs0.length : Nat) : Int)) ∧ (0 ≤ ((((cs0.getD ((x1 >>> 8).toNat) 0).toNat : Nat) : Int) + (((cs0.getD ((x1 &&& (BitVec.ofInt 16 255)).toNat) 0).toNat : Nat) : Int)) ∧ ((((cs0.getD ((x1 >>> 8).toNat) 0).toNat : Nat) : Int) + (((cs0.getD ((x1 &&& (BitVec.ofInt 16 255)).toNat) 0).toNat : Nat) : Int)) ≤ 255) ∧ (-9223372036854775808 ≤ ((((cs0.getD ((x1 >>> 8).toNat) 0).toNat + (cs0.getD ((x1 &&& (BitVec.ofInt 16 255)).toNat) 0).toNat) : Nat) : Int) ∧ ((((cs0.getD ((x1 >>> 8).toNat) 0).toNat + (cs0.getD ((x1 &&& (BitVec.ofInt 16 255)).toNat) 0).toNat) : Nat) : Int) ≤ 9223372036854775807) ∧ True) Tryd_mixed (by kernel_rfl) ⟨ob0, ob1, ob2, ob3, ob4, trivial⟩ ?_
  refine thenQ_normal ?_
  have hret := Option.some.inj h
  subst hret
  refine AWp.le (Le.mk (s := ⟨11, [(2, .int .i64 ((((cs0.getD ((x1 >>> 8).toNat) 0).toNat + (cs0.getD ((x1 &&& (BitVec.ofInt 16 255)).toNat) 0).toNat) : Nat) : Int))], [], [], 0⟩) (s' := ⟨11, [(2, .int .i64 ((((cs0.getD ((x1 >>> 8).toNat) 0).toNat + (cs0.getD ((x1 &&& (BitVec.ofInt 16 255)).toNat) 0).toNat) : Nat) : Int))], [], [], 0⟩) rfl rfl ⟨.refl _, trivial⟩ trivial) ?_
  refine AWp.ret ?_
  exact bodyQ_ret _ rfl ⟨rfl, rfl⟩ rfl
def f64 (x1 : BitVec 16) : Option Int :=
  (f82 x1).bind fun (r2 : Int) =>
  some r2
set_option maxRecDepth 100000 in
theorem f64_ok  (x1 : BitVec 16) (r : Int) (h : f64 x1 = some r)  : Spec1 Tryd.prog 64 [] [] [] [.b16 x1] (.int .i64 r) [] := by
  unfold f64 at h
  refine Spec1.body 0 _ _ Tryd.func64 rfl Tryd.ntmps64 rfl rfl ?_
  refine AWp.seq ?_
  refine AWp.regC [] [] [0] [] ⟨5, [(0, .b16 x1)], [], [], 0⟩ (True) Tryd_mixed (by kernel_rfl) trivial ?_
  refine thenQ_normal ?_
  refine AWp.seq ?_
  obtain ⟨r2, hr2, h⟩ := bind_ok h
  refine AWp.regC [] [(1, ⟨[.b16 x1], [], [], [], .int .i64 r2, [], [], []⟩)] [2] [] ⟨5, [(2, .int .i64 r2)], [], [], 0⟩ ((callP Tryd.prog true 82 [] [] [] [] [] [.b16 x1] [.b16 x1] (.int .i64 r2) []) ∧ True) Tryd_mixed (by kernel_rfl) ⟨⟨fun _ => (f82_ok x1 r2 hr2), fun _ => ⟨.refl _, trivial⟩, .inl rfl⟩, trivial⟩ ?_
  refine thenQ_normal ?_
  have hret := Option.some.inj h
  subst hret
  refine AWp.le (Le.mk (s := ⟨5, [(2, .int .i64 r2)], [], [], 0⟩) (s' := ⟨5, [(2, .int .i64 r2)], [], [], 0⟩) rfl rfl ⟨.refl _, trivial⟩ trivial) ?_
  refine AWp.ret ?_
  exact bodyQ_ret _ rfl ⟨rfl, rfl⟩ rfl
def f81 (x1 : Int) : Option Bool :=
  some (x1 != x1)
set_option maxRecDepth 100000 in
theorem f81_ok  (x1 : Int) (r : Bool) (h : f81 x1 = some r)  : Spec1 Tryd.prog 81 [] [] [] [.int .i64 x1] (.bool r) [] := by
  unfold f81 at h
  refine Spec1.body 0 _ _ Tryd.func81 rfl Tryd.ntmps81 rfl rfl ?_
  refine AWp.seq ?_
  refine AWp.regC [] [] [0] [] ⟨6, [(0, .int .i64 x1)], [], [], 0⟩ (True) Tryd_mixed (by kernel_rfl) trivial ?_
  refine thenQ_normal ?_
  refine AWp.seq ?_
  refine AWp.regC [] [] [2] [] ⟨6, [(2, .bool (x1 != x1))], [], [], 0⟩ (True) Tryd_mixed (by kernel_rfl) trivial ?_
  refine thenQ_normal ?_
  have hret := Option.some.inj h
  subst hret
  refine AWp.le (Le.mk (s := ⟨6, [(2, .bool (x1 != x1))], [], [], 0⟩) (s' := ⟨6, [(2, .bool (x1 != x1))], [], [], 0⟩) rfl rfl ⟨.refl _, trivial⟩ trivial) ?_
  refine AWp.ret ?_
  exact bodyQ_ret _ rfl ⟨rfl, rfl⟩ rfl
def f63 (x1 : Int) (x2 : Int) : Option Int :=
  (f81 x1).bind fun (r3 : Bool) =>
  (f81 x2).bind fun (r4 : Bool) =>
  if r3 then (
  if r4 then (
  some (0 : Int)
  ) else (
  some (-1 : Int)
  )
  ) else (
  if r4 then (
  some (1 : Int)
  ) else (
  if (decide (x1 < x2)) then (
  some (-1 : Int)
  ) else (
  if (decide (x1 > x2)) then (
  some (1 : Int)
  ) else (
  some (0 : Int)
  )
  )
  )
  )
set_option maxRecDepth 100000 in
theorem f63_ok  (x1 : Int) (x2 : Int) (r : Int) (h : f63 x1 x2 = some r)  : Spec1 Tryd.prog 63 [] [] [] [.int .i64 x1, .int .i64 x2] (.int .i64 r) [] := by
  unfold f63 at h
  refine Spec1.body 0 _ _ Tryd.func63 rfl Tryd.ntmps63 rfl rfl ?_
  refine AWp.seq ?_
  refine AWp.regC [] [] [0, 1] [] ⟨20, [(0, .int .i64 x1), (1, .int .i64 x2)], [], [], 0⟩ (True) Tryd_mixed (by kernel_rfl) trivial ?_
  refine thenQ_normal ?_
  refine AWp.seq ?_
  obtain ⟨r3, hr3, h⟩ := bind_ok h
  refine AWp.regC [] [(1, ⟨[.int .i64 x1], [], [], [], .bool r3, [], [], []⟩)] [0, 1, 5] [] ⟨20, [(0, .int .i64 x1), (1, .int .i64 x2), (5, .bool r3)], [], [], 0⟩ ((callP Tryd.prog true 81 [] [] [] [] [] [.int .i64 x1] [.int .i64 x1] (.bool r3) []) ∧ True) Tryd_mixed (by kernel_rfl) ⟨⟨fun _ => (f81_ok x1 r3 hr3), fun _ => ⟨.refl _, trivial⟩, .inl rfl⟩, trivial⟩ ?_
  refine thenQ_normal ?_
  refine AWp.seq ?_
  obtain ⟨r4, hr4, h⟩ := bind_ok h
  refine AWp.regC [] [(1, ⟨[.int .i64 x2], [], [], [], .bool r4, [], [], []⟩)] [0, 1, 5, 6] [] ⟨20, [(0, .int .i64 x1), (1, .int .i64 x2), (5, .bool r3), (6, .bool r4)], [], [], 0⟩ ((callP Tryd.prog true 81 [] [] [] [] [] [.int .i64 x2] [.int .i64 x2] (.bool r4) []) ∧ True) Tryd_mixed (by kernel_rfl) ⟨⟨fun _ => (f81_ok x2 r4 hr4), fun _ => ⟨.refl _, trivial⟩, .inl rfl⟩, trivial⟩ ?_
  refine thenQ_normal ?_
  refine AWp.seq ?_
  refine AWp.seq ?_
  refine AWp.regC [] [] [0, 1, 6, 11] [] ⟨20, [(0, .int .i64 x1), (1, .int .i64 x2), (6, .bool r4), (11, .bool r3)], [], [], 0⟩ (True) Tryd_mixed (by kernel_rfl) trivial ?_
  refine thenQ_normal ?_
  refine AWp.cond (b := r3) (by kernel_rfl) (fun hc1 => ?_) (fun hc1 => ?_)
  ·
    replace h := ite_tb hc1 h
    refine AWp.seq ?_
    refine AWp.seq ?_
    refine AWp.regC [] [] [12] [] ⟨20, [(12, .bool r4)], [], [], 0⟩ (True) Tryd_mixed (by kernel_rfl) trivial ?_
    refine thenQ_normal ?_
    refine AWp.cond (b := r4) (by kernel_rfl) (fun hc2 => ?_) (fun hc2 => ?_)
    ·
      replace h := ite_tb hc2 h
      refine AWp.seq ?_
      refine AWp.regC [] [] [4] [] ⟨20, [(4, .int .i64 (0 : Int))], [], [], 0⟩ (True) Tryd_mixed (by kernel_rfl) trivial ?_
      refine thenQ_normal ?_
      have hret := Option.some.inj h
      subst hret
      refine AWp.le (Le.mk (s := ⟨20, [(4, .int .i64 (0 : Int))], [], [], 0⟩) (s' := ⟨20, [(4, .int .i64 (0 : Int))], [], [], 0⟩) rfl rfl ⟨.refl _, trivial⟩ trivial) ?_
      refine AWp.ret ?_
      refine thenQ_ret ?_
      refine thenQ_ret ?_
      exact bodyQ_ret _ rfl ⟨rfl, rfl⟩ rfl
    ·
      replace h := ite_fb hc2 h
      refine AWp.skip ?_
      refine thenQ_normal ?_
      refine AWp.seq ?_
      refine AWp.regC [] [] [4] [] ⟨20, [(4, .int .i64 (-1 : Int))], [], [], 0⟩ (True) Tryd_mixed (by kernel_rfl) trivial ?_
      refine thenQ_normal ?_
      have hret := Option.some.inj h
      subst hret
      refine AWp.le (Le.mk (s := ⟨20, [(4, .int .i64 (-1 : Int))], [], [], 0⟩) (s' := ⟨20, [(4, .int .i64 (-1 : Int))], [], [], 0⟩) rfl rfl ⟨.refl _, trivial⟩ trivial) ?_
      refine AWp.ret ?_
      refine thenQ_ret ?_
      exact bodyQ_ret _ rfl ⟨rfl, rfl⟩ rfl
  ·
    replace h := ite_fb hc1 h
    refine AWp.skip ?_
    refine thenQ_normal ?_
    refine AWp.seq ?_
    refine AWp.seq ?_
    refine AWp.regC [] [] [0, 1, 13] [] ⟨20, [(0, .int .i64 x1), (1, .int .i64 x2), (13, .bool r4)], [], [], 0⟩ (True) Tryd_mixed (by kernel_rfl) trivial ?_
    refine thenQ_normal ?_
    refine AWp.cond (b := r4) (by kernel_rfl) (fun hc3 => ?_) (fun hc3 => ?_)
    ·
      replace h := ite_tb hc3 h
      refine AWp.seq ?_
      refine AWp.regC [] [] [4] [] ⟨20, [(4, .int .i64 (1 : Int))], [], [], 0⟩ (True) Tryd_mixed (by kernel_rfl) trivial ?_
      refine thenQ_normal ?_
      have hret := Option.some.inj h
      subst hret
      refine AWp.le (Le.mk (s := ⟨20, [(4, .int .i64 (1 : Int))], [], [], 0⟩) (s' := ⟨20, [(4, .int .i64 (1 : Int))], [], [], 0⟩) rfl rfl ⟨.refl _, trivial⟩ trivial) ?_
      refine AWp.ret ?_
      refine thenQ_ret ?_
      exact bodyQ_ret _ rfl ⟨rfl, rfl⟩ rfl
    ·
      replace h := ite_fb hc3 h
      refine AWp.skip ?_
      refine thenQ_normal ?_
      refine AWp.seq ?_
      refine AWp.seq ?_
      refine AWp.regC [] [] [0, 1, 16] [] ⟨20, [(0, .int .i64 x1), (1, .int .i64 x2), (16, .bool (decide (x1 < x2)))], [], [], 0⟩ (True) Tryd_mixed (by kernel_rfl) trivial ?_
      refine thenQ_normal ?_
      refine AWp.cond (b := (decide (x1 < x2))) (by kernel_rfl) (fun hc4 => ?_) (fun hc4 => ?_)
      ·
        replace h := ite_tb hc4 h
        refine AWp.seq ?_
        refine AWp.regC [] [] [4] [] ⟨20, [(4, .int .i64 (-1 : Int))], [], [], 0⟩ (True) Tryd_mixed (by kernel_rfl) trivial ?_
        refine thenQ_normal ?_
        have hret := Option.some.inj h
        subst hret
        refine AWp.le (Le.mk (s := ⟨20, [(4, .int .i64 (-1 : Int))], [], [], 0⟩) (s' := ⟨20, [(4, .int .i64 (-1 : Int))], [], [], 0⟩) rfl rfl ⟨.refl _, trivial⟩ trivial) ?_
        refine AWp.ret ?_
        refine thenQ_ret ?_
        exact bodyQ_ret _ rfl ⟨rfl, rfl⟩ rfl
      ·
        replace h := ite_fb hc4 h
        refine AWp.skip ?_
        refine thenQ_normal ?_
        refine AWp.seq ?_
        refine AWp.seq ?_
        refine AWp.regC [] [] [19] [] ⟨20, [(19, .bool (decide (x1 > x2)))], [], [], 0⟩ (True) Tryd_mixed (by kernel_rfl) trivial ?_
        refine thenQ_normal ?_
        refine AWp.cond (b := (decide (x1 > x2))) (by kernel_rfl) (fun hc5 => ?_) (fun hc5 => ?_)
        ·
          replace h := ite_tb hc5 h
          refine AWp.seq ?_
          refine AWp.regC [] [] [4] [] ⟨20, [(4, .int .i64 (1 : Int))], [], [], 0⟩ (True) Tryd_mixed (by kernel_rfl) trivial ?_
          refine thenQ_normal ?_
          have hret := Option.some.inj h
          subst hret
          refine AWp.le (Le.mk (s := ⟨20, [(4, .int .i64 (1 : Int))], [], [], 0⟩) (s' := ⟨20, [(4, .int .i64 (1 : Int))], [], [], 0⟩) rfl rfl ⟨.refl _, trivial⟩ trivial) ?_
          refine AWp.ret ?_
          refine thenQ_ret ?_
          exact bodyQ_ret _ rfl ⟨rfl, rfl⟩ rfl
        ·
          replace h := ite_fb hc5 h
          refine AWp.skip ?_
          refine thenQ_normal ?_
          refine AWp.seq ?_
          refine AWp.regC [] [] [4] [] ⟨20, [(4, .int .i64 (0 : Int))], [], [], 0⟩ (True) Tryd_mixed (by kernel_rfl) trivial ?_
          refine thenQ_normal ?_
          have hret := Option.some.inj h
          subst hret
          refine AWp.le (Le.mk (s := ⟨20, [(4, .int .i64 (0 : Int))], [], [], 0⟩) (s' := ⟨20, [(4, .int .i64 (0 : Int))], [], [], 0⟩) rfl rfl ⟨.refl _, trivial⟩ trivial) ?_
          refine AWp.ret ?_
          exact bodyQ_ret _ rfl ⟨rfl, rfl⟩ rfl
def f83 (x1 : BitVec 16) : Option Bool :=
  some (!(x1 == x1))
set_option maxRecDepth 100000 in
theorem f83_ok  (x1 : BitVec 16) (r : Bool) (h : f83 x1 = some r)  : Spec1 Tryd.prog 83 [] [] [] [.b16 x1] (.bool r) [] := by
  unfold f83 at h
  refine Spec1.body 0 _ _ Tryd.func83 rfl Tryd.ntmps83 rfl rfl ?_
  refine AWp.seq ?_
  refine AWp.regC [] [] [0] [] ⟨6, [(0, .b16 x1)], [], [], 0⟩ (True) Tryd_mixed (by kernel_rfl) trivial ?_
  refine thenQ_normal ?_
  refine AWp.seq ?_
  refine AWp.regC [] [] [2] [] ⟨6, [(2, .bool (!(x1 == x1)))], [], [], 0⟩ (True) Tryd_mixed (by kernel_rfl) trivial ?_
  refine thenQ_normal ?_
  have hret := Option.some.inj h
  subst hret
  refine AWp.le (Le.mk (s := ⟨6, [(2, .bool (!(x1 == x1)))], [], [], 0⟩) (s' := ⟨6, [(2, .bool (!(x1 == x1)))], [], [], 0⟩) rfl rfl ⟨.refl _, trivial⟩ trivial) ?_
  refine AWp.ret ?_
  exact bodyQ_ret _ rfl ⟨rfl, rfl⟩ rfl
def f65 (x1 : BitVec 16) (x2 : BitVec 16) : Option Int :=
  (f83 x1).bind fun (r3 : Bool) =>
  (f83 x2).bind fun (r4 : Bool) =>
  if r3 then (
  if r4 then (
  some (0 : Int)
  ) else (
  some (-1 : Int)
  )
  ) else (
  if r4 then (
  some (1 : Int)
  ) else (
  if (decide (x1.toNat < x2.toNat)) then (
  some (-1 : Int)
  ) else (
  if (decide (x1.toNat > x2.toNat)) then (
  some (1 : Int)
  ) else (
  some (0 : Int)
  )
  )
  )
  )
set_option maxRecDepth 100000 in
theorem f65_ok  (x1 : BitVec 16) (x2 : BitVec 16) (r : Int) (h : f65 x1 x2 = some r)  : Spec1 Tryd.prog 65 [] [] [] [.b16 x1, .b16 x2] (.int .i64 r) [] := by
  unfold f65 at h
  refine Spec1.body 0 _ _ Tryd.func65 rfl Tryd.ntmps65 rfl rfl ?_
  refine AWp.seq ?_
  refine AWp.regC [] [] [0, 1] [] ⟨20, [(0, .b16 x1), (1, .b16 x2)], [], [], 0⟩ (True) Tryd_mixed (by kernel_rfl) trivial ?_
  refine thenQ_normal ?_
  refine AWp.seq ?_
  obtain ⟨r3, hr3, h⟩ := bind_ok h
  refine AWp.regC [] [(1, ⟨[.b16 x1], [], [], [], .bool r3, [], [], []⟩)] [0, 1, 5] [] ⟨20, [(0, .b16 x1), (1, .b16 x2), (5, .bool r3)], [], [], 0⟩ ((callP Tryd.prog true 83 [] [] [] [] [] [.b16 x1] [.b16 x1] (.bool r3) []) ∧ True) Tryd_mixed (by kernel_rfl) ⟨⟨fun _ => (f83_ok x1 r3 hr3), fun _ => ⟨.refl _, trivial⟩, .inl rfl⟩, trivial⟩ ?_
  refine thenQ_normal ?_
  refine AWp.seq ?_
  obtain ⟨r4, hr4, h⟩ := bind_ok h
  refine AWp.regC [] [(1, ⟨[.b16 x2], [], [], [], .bool r4, [], [], []⟩)] [0, 1, 5, 6] [] ⟨20, [(0, .b16 x1), (1, .b16 x2), (5, .bool r3), (6, .bool r4)], [], [], 0⟩ ((callP Tryd.prog true 83 [] [] [] [] [] [.b16 x2] [.b16 x2] (.bool r4) []) ∧ True) Tryd_mixed (by kernel_rfl) ⟨⟨fun _ => (f83_ok x2 r4 hr4), fun _ => ⟨.refl _, trivial⟩, .inl rfl⟩, trivial⟩ ?_
  refine thenQ_normal ?_
  refine AWp.seq ?_
  refine AWp.seq ?_
  refine AWp.regC [] [] [0, 1, 6, 11] [] ⟨20, [(0, .b16 x1), (1, .b16 x2), (6, .bool r4), (11, .bool r3)], [], [], 0⟩ (True) Tryd_mixed (by kernel_rfl) trivial ?_
  refine thenQ_normal ?_
  refine AWp.cond (b := r3) (by kernel_rfl) (fun hc1 => ?_) (fun hc1 => ?_)
  ·
    replace h := ite_tb hc1 h
    refine AWp.seq ?_
    refine AWp.seq ?_
    refine AWp.regC [] [] [12] [] ⟨20, [(12, .bool r4)], [], [], 0⟩ (True) Tryd_mixed (by kernel_rfl) trivial ?_
    refine thenQ_normal ?_
    refine AWp.cond (b := r4) (by kernel_rfl) (fun hc2 => ?_) (fun hc2 => ?_)
    ·
      replace h := ite_tb hc2 h
      refine AWp.seq ?_
      refine AWp.regC [] [] [4] [] ⟨20, [(4, .int .i64 (0 : Int))], [], [], 0⟩ (True) Tryd_mixed (by kernel_rfl) trivial ?_
      refine thenQ_normal ?_
      have hret := Option.some.inj h
      subst hret
      refine AWp.le (Le.mk (s := ⟨20, [(4, .int .i64 (0 : Int))], [], [], 0⟩) (s' := ⟨20, [(4, .int .i64 (0 : Int))], [], [], 0⟩) rfl rfl ⟨.refl _, trivial⟩ trivial) ?_
      refine AWp.ret ?_
      refine thenQ_ret ?_
      refine thenQ_ret ?_
      exact bodyQ_ret _ rfl ⟨rfl, rfl⟩ rfl
    ·
      replace h := ite_fb hc2 h
      refine AWp.skip ?_
      refine thenQ_normal ?_
      refine AWp.seq ?_
      refine AWp.regC [] [] [4] [] ⟨20, [(4, .int .i64 (-1 : Int))], [], [], 0⟩ (True) Tryd_mixed (by kernel_rfl) trivial ?_
      refine thenQ_normal ?_
      have hret := Option.some.inj h
      subst hret
      refine AWp.le (Le.mk (s := ⟨20, [(4, .int .i64 (-1 : Int))], [], [], 0⟩) (s' := ⟨20, [(4, .int .i64 (-1 : Int))], [], [], 0⟩) rfl rfl ⟨.refl _, trivial⟩ trivial) ?_
      refine AWp.ret ?_
      refine thenQ_ret ?_
      exact bodyQ_ret _ rfl ⟨rfl, rfl⟩ rfl
  ·
    replace h := ite_fb hc1 h
    refine AWp.skip ?_
    refine thenQ_normal ?_
    refine AWp.seq ?_
    refine AWp.seq ?_
    refine AWp.regC [] [] [0, 1, 13] [] ⟨20, [(0, .b16 x1), (1, .b16 x2), (13, .bool r4)], [], [], 0⟩ (True) Tryd_mixed (by kernel_rfl) trivial ?_
    refine thenQ_normal ?_
    refine AWp.cond (b := r4) (by kernel_rfl) (fun hc3 => ?_) (fun hc3 => ?_)
    ·
      replace h := ite_tb hc3 h
      refine AWp.seq ?_
      refine AWp.regC [] [] [4] [] ⟨20, [(4, .int .i64 (1 : Int))], [], [], 0⟩ (True) Tryd_mixed (by kernel_rfl) trivial ?_
      refine thenQ_normal ?_
      have hret := Option.some.inj h
      subst hret
      refine AWp.le (Le.mk (s := ⟨20, [(4, .int .i64 (1 : Int))], [], [], 0⟩) (s' := ⟨20, [(4, .int .i64 (1 : Int))], [], [], 0⟩) rfl rfl ⟨.refl _, trivial⟩ trivial) ?_
      refine AWp.ret ?_
      refine thenQ_ret ?_
      exact bodyQ_ret _ rfl ⟨rfl, rfl⟩ rfl
    ·
      replace h := ite_fb hc3 h
      refine AWp.skip ?_
      refine thenQ_normal ?_
      refine AWp.seq ?_
      refine AWp.seq ?_
      refine AWp.regC [] [] [0, 1, 16] [] ⟨20, [(0, .b16 x1), (1, .b16 x2), (16, .bool (decide (x1.toNat < x2.toNat)))], [], [], 0⟩ (True) Tryd_mixed (by kernel_rfl) trivial ?_
      refine thenQ_normal ?_
      refine AWp.cond (b := (decide (x1.toNat < x2.toNat))) (by kernel_rfl) (fun hc4 => ?_) (fun hc4 => ?_)
      ·
        replace h := ite_tb hc4 h
        refine AWp.seq ?_
        refine AWp.regC [] [] [4] [] ⟨20, [(4, .int .i64 (-1 : Int))], [], [], 0⟩ (True) Tryd_mixed (by kernel_rfl) trivial ?_
        refine thenQ_normal ?_
        have hret := Option.some.inj h
        subst hret
        refine AWp.le (Le.mk (s := ⟨20, [(4, .int .i64 (-1 : Int))], [], [], 0⟩) (s' := ⟨20, [(4, .int .i64 (-1 : Int))], [], [], 0⟩) rfl rfl ⟨.refl _, trivial⟩ trivial) ?_
        refine AWp.ret ?_
        refine thenQ_ret ?_
        exact bodyQ_ret _ rfl ⟨rfl, rfl⟩ rfl
      ·
        replace h := ite_fb hc4 h
        refine AWp.skip ?_
        refine thenQ_normal ?_
        refine AWp.seq ?_
        refine AWp.seq ?_
        refine AWp.regC [] [] [19] [] ⟨20, [(19, .bool (decide (x1.toNat > x2.toNat)))], [], [], 0⟩ (True) Tryd_mixed (by kernel_rfl) trivial ?_
        refine thenQ_normal ?_
        refine AWp.cond (b := (decide (x1.toNat > x2.toNat))) (by kernel_rfl) (fun hc5 => ?_) (fun hc5 => ?_)
        ·
          replace h := ite_tb hc5 h
          refine AWp.seq ?_
          refine AWp.regC [] [] [4] [] ⟨20, [(4, .int .i64 (1 : Int))], [], [], 0⟩ (True) Tryd_mixed (by kernel_rfl) trivial ?_
          refine thenQ_normal ?_
          have hret := Option.some.inj h
          subst hret
          refine AWp.le (Le.mk (s := ⟨20, [(4, .int .i64 (1 : Int))], [], [], 0⟩) (s' := ⟨20, [(4, .int .i64 (1 : Int))], [], [], 0⟩) rfl rfl ⟨.refl _, trivial⟩ trivial) ?_
          refine AWp.ret ?_
          refine thenQ_ret ?_
          exact bodyQ_ret _ rfl ⟨rfl, rfl⟩ rfl
        ·
          replace h := ite_fb hc5 h
          refine AWp.skip ?_
          refine thenQ_normal ?_
          refine AWp.seq ?_
          refine AWp.regC [] [] [4] [] ⟨20, [(4, .int .i64 (0 : Int))], [], [], 0⟩ (True) Tryd_mixed (by kernel_rfl) trivial ?_
          refine thenQ_normal ?_
          have hret := Option.some.inj h
          subst hret
          refine AWp.le (Le.mk (s := ⟨20, [(4, .int .i64 (0 : Int))], [], [], 0⟩) (s' := ⟨20, [(4, .int .i64 (0 : Int))], [], [], 0⟩) rfl rfl ⟨.refl _, trivial⟩ trivial) ?_
          refine AWp.ret ?_
          exact bodyQ_ret _ rfl ⟨rfl, rfl⟩ rfl
def f62_L0 (x1 : List Int) (K1 : Unit → Option Int) : Nat → Nat → Option Int
  | 0, _ => none
  | k + 1, n2 =>
    if (decide (((n2 : Nat) : Int) < (((x1).length : Nat) : Int))) then (
    chk (((n2 : Nat) : Int) < (((x1).length : Nat) : Int)) <|
    if ((x1.getD n2 0) != (0 : Int)) then (
    some (x1.getD n2 0)
    ) else (
    chk ((((n2 : Nat) : Int) + (1 : Int)) ≤ 9223372036854775807) <|
    (f62_L0 x1 K1 k) (n2 + 1)
    )
    ) else (
    K1 ()
    )
def f62 (x1 : List Int) : Option Int :=
  jn (fun (_ : Unit) =>
  some (0 : Int)
  ) fun (K1 : Unit → Option Int) =>
  f62_L0 x1 K1 FUEL 0
set_option maxRecDepth 100000 in
theorem f62_ok  (x1 : List Int) (r : Int) (h : f62 x1 = some r)  : Spec1 Tryd.prog 62 [] [] [] [vL 1 eI 0 x1] (.int .i64 r) [] := by
  unfold f62 at h
  refine Spec1.body 0 _ _ Tryd.func62 rfl Tryd.ntmps62 rfl rfl ?_
  refine AWp.seq ?_
  refine AWp.regC [] [] [0] [] ⟨18, [(0, vL 1 eI 0 x1)], [], [], 0⟩ (True) Tryd_mixed (by kernel_rfl) trivial ?_
  refine thenQ_normal ?_
  refine AWp.seq ?_
  refine AWp.regC [] [] [0, 3] [] ⟨18, [(0, vL 1 eI 0 x1), (3, .int .i64 (0 : Int))], [], [], 0⟩ (True) Tryd_mixed (by kernel_rfl) trivial ?_
  refine thenQ_normal ?_
  obtain ⟨K1, hK1, h⟩ := jn_some h
  refine AWp.join (α := Unit) (fun (x : Unit) => match x with | () => ⟨18, [(3, .int .i64 (0 : Int))], [], [], 0⟩) (fun x => K1 x = some r) ?_ ?_
  ·
    refine AWp.seq ?_
    refine AWp.regC [] [] [3, 6, 7, 8] [] ⟨18, [(3, .int .i64 (0 : Int)), (6, vL 1 eI 0 x1), (7, .int .i64 (((x1).length : Nat) : Int)), (8, .int .i64 (0 : Int))], [], [], 0⟩ (True) Tryd_mixed (by kernel_rfl) trivial ?_
    refine thenQ_normal ?_
    refine AWp.block ?_
    refine AWp.loopL (α := Nat × Nat) (fun x => match x with | (_, n2) => ⟨18, [(3, .int .i64 (0 : Int)), (6, vL 1 eI 0 x1), (7, .int .i64 (((x1).length : Nat) : Int)), (8, .int .i64 ((n2 : Nat) : Int))], [], [], 0⟩) (fun x => f62_L0 x1 K1 x.1 x.2 = some r) (fun x => x.1) (FUEL, 0) (Le.mk (s := ⟨18, [(3, .int .i64 (0 : Int)), (6, vL 1 eI 0 x1), (7, .int .i64 (((x1).length : Nat) : Int)), (8, .int .i64 (0 : Int))], [], [], 0⟩) (s' := ⟨18, [(3, .int .i64 (0 : Int)), (6, vL 1 eI 0 x1), (7, .int .i64 (((x1).length : Nat) : Int)), (8, .int .i64 (0 : Int))], [], [], 0⟩) rfl rfl ⟨.refl _, .refl _, .refl _, .refl _, trivial⟩ trivial) h ?_
    rintro ⟨k0, n2⟩ h
    cases k0 with
    | zero => exact nomatch (show (none : Option Int) = some r from h)
    | succ k0 =>
    obtain ⟨C0, hC0⟩ : ∃ C, C = f62_L0 x1 K1 k0 := ⟨_, rfl⟩
    replace h := (f62_L0.eq_2 ..).symm.trans h
    try rw [← hC0] at h
    refine AWp.seq ?_
    refine AWp.regC [] [] [3, 6, 7, 8, 9] [] ⟨18, [(3, .int .i64 (0 : Int)), (6, vL 1 eI 0 x1), (7, .int .i64 (((x1).length : Nat) : Int)), (8, .int .i64 ((n2 : Nat) : Int)), (9, .bool (decide (((n2 : Nat) : Int) < (((x1).length : Nat) : Int))))], [], [], 0⟩ (True) Tryd_mixed (by kernel_rfl) trivial ?_
    refine thenQ_normal ?_
    refine AWp.seq ?_
    refine AWp.cond (b := (decide (((n2 : Nat) : Int) < (((x1).length : Nat) : Int)))) (by kernel_rfl) (fun hc1 => ?_) (fun hc1 => ?_)
    ·
      replace h := ite_tb hc1 h
      refine AWp.skip ?_
      refine thenQ_normal ?_
      refine AWp.seq ?_
      refine AWp.block ?_
      refine AWp.seq ?_
      obtain ⟨ob0p, h⟩ := chk_some h
      have ob0 : 0 ≤ ((n2 : Nat) : Int) ∧ ((n2 : Nat) : Int) < (((x1).length : Nat) : Int) := ⟨by omega, ob0p⟩
      refine AWp.regC [] [] [3, 5, 6, 7, 8] [] ⟨18, [(3, .int .i64 (0 : Int)), (5, .int .i64 (x1.getD n2 0)), (6, vL 1 eI 0 x1), (7, .int .i64 (((x1).length : Nat) : Int)), (8, .int .i64 ((n2 : Nat) : Int))], [], [], 0⟩ ((0 ≤ ((n2 : Nat) : Int) ∧ ((n2 : Nat) : Int) < (((x1).length : Nat) : Int)) ∧ True) Tryd_mixed (by kernel_rfl) ⟨ob0, trivial⟩ ?_
      refine thenQ_normal ?_
      refine AWp.seq ?_
      refine AWp.regC [] [] [3, 5, 6, 7, 8, 14] [] ⟨18, [(3, .int .i64 (0 : Int)), (5, .int .i64 (x1.getD n2 0)), (6, vL 1 eI 0 x1), (7, .int .i64 (((x1).length : Nat) : Int)), (8, .int .i64 ((n2 : Nat) : Int)), (14, .bool ((x1.getD n2 0) != (0 : Int)))], [], [], 0⟩ (True) Tryd_mixed (by kernel_rfl) trivial ?_
      refine thenQ_normal ?_
      refine AWp.cond (b := ((x1.getD n2 0) != (0 : Int))) (by kernel_rfl) (fun hc2 => ?_) (fun hc2 => ?_)
      ·
        replace h := ite_tb hc2 h
        refine AWp.seq ?_
        refine AWp.regC [] [] [2] [] ⟨18, [(2, .int .i64 (x1.getD n2 0))], [], [], 0⟩ (True) Tryd_mixed (by kernel_rfl) trivial ?_
        refine thenQ_normal ?_
        have hret := Option.some.inj h
        subst hret
        refine AWp.le (Le.mk (s := ⟨18, [(2, .int .i64 (x1.getD n2 0))], [], [], 0⟩) (s' := ⟨18, [(2, .int .i64 (x1.getD n2 0))], [], [], 0⟩) rfl rfl ⟨.refl _, trivial⟩ trivial) ?_
        refine AWp.ret ?_
        refine blockQ_ret ?_
        refine thenQ_ret ?_
        refine thenQ_ret ?_
        refine blockQ_ret ?_
        refine joinQ_ret ?_
        exact bodyQ_ret _ rfl ⟨rfl, rfl⟩ rfl
      ·
        replace h := ite_fb hc2 h
        refine AWp.skip ?_
        refine blockQ_normal ?_
        refine thenQ_normal ?_
        obtain ⟨ob1p, h⟩ := chk_some h
        have ob1 : -9223372036854775808 ≤ (((n2 : Nat) : Int) + (1 : Int)) ∧ (((n2 : Nat) : Int) + (1 : Int)) ≤ 9223372036854775807 := ⟨by omega, ob1p⟩
        refine AWp.regC [] [] [3, 6, 7, 8] [] ⟨18, [(3, .int .i64 (0 : Int)), (6, vL 1 eI 0 x1), (7, .int .i64 (((x1).length : Nat) : Int)), (8, .int .i64 (((n2 + 1) : Nat) : Int))], [], [], 0⟩ ((-9223372036854775808 ≤ (((n2 : Nat) : Int) + (1 : Int)) ∧ (((n2 : Nat) : Int) + (1 : Int)) ≤ 9223372036854775807) ∧ True) Tryd_mixed (by kernel_rfl) ⟨ob1, trivial⟩ ?_
        rw [hC0] at h
        exact loopQ_normal (_, (n2 + 1)) (Le.mk (s := ⟨18, [(3, .int .i64 (0 : Int)), (6, vL 1 eI 0 x1), (7, .int .i64 (((x1).length : Nat) : Int)), (8, .int .i64 (((n2 + 1) : Nat) : Int))], [], [], 0⟩) (s' := ⟨18, [(3, .int .i64 (0 : Int)), (6, vL 1 eI 0 x1), (7, .int .i64 (((x1).length : Nat) : Int)), (8, .int .i64 (((n2 + 1) : Nat) : Int))], [], [], 0⟩) rfl rfl ⟨.refl _, .refl _, .refl _, .refl _, trivial⟩ trivial) h (Nat.lt_succ_self _)
    ·
      replace h := ite_fb hc1 h
      refine AWp.exit ?_
      refine thenQ_exit ?_
      refine thenQ_exit ?_
      refine blockQ_same ?_
      exact joinQ_normal () (Le.mk (s := ⟨18, [(3, .int .i64 (0 : Int)), (6, vL 1 eI 0 x1), (7, .int .i64 (((x1).length : Nat) : Int)), (8, .int .i64 ((n2 : Nat) : Int)), (9, .bool (decide (((n2 : Nat) : Int) < (((x1).length : Nat) : Int))))], [], [], 0⟩) (s' := ⟨18, [(3, .int .i64 (0 : Int))], [], [], 0⟩) rfl rfl ⟨.refl _, trivial⟩ trivial) h
  ·
    rintro ⟨⟩ h
    replace h := (congrFun hK1 _).symm.trans h
    refine AWp.seq ?_
    refine AWp.regC [] [] [2] [] ⟨18, [(2, .int .i64 (0 : Int))], [], [], 0⟩ (True) Tryd_mixed (by kernel_rfl) trivial ?_
    refine thenQ_normal ?_
    have hret := Option.some.inj h
    subst hret
    refine AWp.le (Le.mk (s := ⟨18, [(2, .int .i64 (0 : Int))], [], [], 0⟩) (s' := ⟨18, [(2, .int .i64 (0 : Int))], [], [], 0⟩) rfl rfl ⟨.refl _, trivial⟩ trivial) ?_
    refine AWp.ret ?_
    exact bodyQ_ret _ rfl ⟨rfl, rfl⟩ rfl
def f38 (x1 : BitVec 16) (x2 : BitVec 16) : Option Int :=
  (f64 x1).bind fun (r3 : Int) =>
  (f64 x2).bind fun (r4 : Int) =>
  (f63 r3 r4).bind fun (r5 : Int) =>
  (f65 x1 x2).bind fun (r6 : Int) =>
  (f62 [r5, r6]).bind fun (r7 : Int) =>
  some r7
set_option maxRecDepth 100000 in
theorem f38_ok  (x1 : BitVec 16) (x2 : BitVec 16) (r : Int) (h : f38 x1 x2 = some r)  : Spec1 Tryd.prog 38 [] [] [] [.b16 x1, .b16 x2] (.int .i64 r) [] := by
  unfold f38 at h
  refine Spec1.body 0 _ _ Tryd.func38 rfl Tryd.ntmps38 rfl rfl ?_
  refine AWp.seq ?_
  refine AWp.regC [] [] [0, 1] [] ⟨15, [(0, .b16 x1), (1, .b16 x2)], [], [], 0⟩ (True) Tryd_mixed (by kernel_rfl) trivial ?_
  refine thenQ_normal ?_
  refine AWp.seq ?_
  obtain ⟨r3, hr3, h⟩ := bind_ok h
  obtain ⟨r4, hr4, h⟩ := bind_ok h
  obtain ⟨r5, hr5, h⟩ := bind_ok h
  obtain ⟨r6, hr6, h⟩ := bind_ok h
  obtain ⟨r7, hr7, h⟩ := bind_ok h
  refine AWp.regC [] [(1, ⟨[.b16 x1], [], [], [], .int .i64 r3, [], [], []⟩), (3, ⟨[.b16 x2], [], [], [], .int .i64 r4, [], [], []⟩), (4, ⟨[.int .i64 r3, .int .i64 r4], [], [], [], .int .i64 r5, [], [], []⟩), (7, ⟨[.b16 x1, .b16 x2], [], [], [], .int .i64 r6, [], [], []⟩), (9, ⟨[vL 1 eI 0 [r5, r6]], [], [], [], .int .i64 r7, [], [13], []⟩)] [4] [] ⟨15, [(4, .int .i64 r7)], [], [], 0⟩ ((callP Tryd.prog true 64 [] [] [] [] [] [.b16 x1] [.b16 x1] (.int .i64 r3) []) ∧ (callP Tryd.prog true 64 [] [] [] [] [] [.b16 x2] [.b16 x2] (.int .i64 r4) []) ∧ (callP Tryd.prog true 63 [] [] [] [] [] [.int .i64 r3, .int .i64 r4] [.int .i64 r3, .int .i64 r4] (.int .i64 r5) []) ∧ (callP Tryd.prog true 65 [] [] [] [] [] [.b16 x1, .b16 x2] [.b16 x1, .b16 x2] (.int .i64 r6) []) ∧ (callP Tryd.prog true 62 [] [] [] [(13, .rows 3 1 2 (lstF 1 [.int .i64 r5, .int .i64 r6]))] [13] [.own 13] [vL 1 eI 0 [r5, r6]] (.int .i64 r7) []) ∧ True) Tryd_mixed (by kernel_rfl) ⟨⟨fun _ => (f64_ok x1 r3 hr3), fun _ => ⟨.refl _, trivial⟩, .inl rfl⟩, ⟨fun _ => (f64_ok x2 r4 hr4), fun _ => ⟨.refl _, trivial⟩, .inl rfl⟩, ⟨fun _ => (f63_ok r3 r4 r5 hr5), fun _ => ⟨.refl _, .refl _, trivial⟩, .inl rfl⟩, ⟨fun _ => (f65_ok x1 x2 r6 hr6), fun _ => ⟨.refl _, .refl _, trivial⟩, .inl rfl⟩, ⟨fun _ => (f62_ok [r5, r6] r7 hr7), fun _ => ⟨(VLe.of (RL.lst (enc := eI) [r5, r6] rfl rfl (fun _ => rfl))), trivial⟩, .inr ⟨rfl, trivial⟩⟩, trivial⟩ ?_
  refine thenQ_normal ?_
  have hret := Option.some.inj h
  subst hret
  refine AWp.le (Le.mk (s := ⟨15, [(4, .int .i64 r7)], [], [], 0⟩) (s' := ⟨15, [(4, .int .i64 r7)], [], [], 0⟩) rfl rfl ⟨.refl _, trivial⟩ trivial) ?_
  refine AWp.ret ?_
  exact bodyQ_ret _ rfl ⟨rfl, rfl⟩ rfl
def f55 (x1 : BitVec 16) (x2 : BitVec 16) : Option Bool :=
  some ((x2 &&& ~~~x1) == (BitVec.ofInt 16 0))
set_option maxRecDepth 100000 in
theorem f55_ok  (x1 : BitVec 16) (x2 : BitVec 16) (r : Bool) (h : f55 x1 x2 = some r)  : Spec1 Tryd.prog 55 [] [] [] [.b16 x1, .b16 x2] (.bool r) [] := by
  unfold f55 at h
  refine Spec1.body 0 _ _ Tryd.func55 rfl Tryd.ntmps55 rfl rfl ?_
  refine AWp.seq ?_
  refine AWp.regC [] [] [0, 1] [] ⟨9, [(0, .b16 x1), (1, .b16 x2)], [], [], 0⟩ (True) Tryd_mixed (by kernel_rfl) trivial ?_
  refine thenQ_normal ?_
  refine AWp.seq ?_
  refine AWp.regC [] [] [4] [] ⟨9, [(4, .bool ((x2 &&& ~~~x1) == (BitVec.ofInt 16 0)))], [], [], 0⟩ (True) Tryd_mixed (by kernel_rfl) trivial ?_
  refine thenQ_normal ?_
  have hret := Option.some.inj h
  subst hret
  refine AWp.le (Le.mk (s := ⟨9, [(4, .bool ((x2 &&& ~~~x1) == (BitVec.ofInt 16 0)))], [], [], 0⟩) (s' := ⟨9, [(4, .bool ((x2 &&& ~~~x1) == (BitVec.ofInt 16 0)))], [], [], 0⟩) rfl rfl ⟨.refl _, trivial⟩ trivial) ?_
  refine AWp.ret ?_
  exact bodyQ_ret _ rfl ⟨rfl, rfl⟩ rfl
def f54 (x1 : BitVec 16) (x2 : BitVec 16) : Option (Bool × BitVec 16) :=
  (f55 x2 x1).bind fun (r3 : Bool) =>
  some (r3, x2)
set_option maxRecDepth 100000 in
theorem f54_ok  (x1 : BitVec 16) (x2 : BitVec 16) (r : Bool × BitVec 16) (h : f54 x1 x2 = some r)  : Spec1 Tryd.prog 54 [] [2000] [(2000, .cells 28 [.b16 x2])] [.b16 x1, .ptr 2000 0] (.bool r.1) [(2000, .cells 28 [.b16 r.2])] := by
  unfold f54 at h
  refine Spec1.body 0 _ _ Tryd.func54 rfl Tryd.ntmps54 rfl rfl ?_
  refine AWp.seq ?_
  refine AWp.regC [] [] [0, 1] [2000] ⟨7, [(0, .b16 x1), (1, .ptr 2000 0)], [(2000, .cells 28 [.b16 x2])], [2000], 0⟩ (True) Tryd_mixed (by kernel_rfl) trivial ?_
  refine thenQ_normal ?_
  refine AWp.seq ?_
  obtain ⟨r3, hr3, h⟩ := bind_ok h
  refine AWp.regC [] [(2, ⟨[.b16 x2, .b16 x1], [], [], [], .bool r3, [], [], []⟩)] [3] [2000] ⟨7, [(3, .bool r3)], [(2000, .cells 28 [.b16 x2])], [2000], 0⟩ ((callP Tryd.prog true 55 [] [] [] [] [] [.b16 x2, .b16 x1] [.b16 x2, .b16 x1] (.bool r3) []) ∧ True) Tryd_mixed (by kernel_rfl) ⟨⟨fun _ => (f55_ok x2 x1 r3 hr3), fun _ => ⟨.refl _, .refl _, trivial⟩, .inl rfl⟩, trivial⟩ ?_
  refine thenQ_normal ?_
  have hret := Option.some.inj h
  subst hret
  refine AWp.le (Le.mk (s := ⟨7, [(3, .bool r3)], [(2000, .cells 28 [.b16 x2])], [2000], 0⟩) (s' := ⟨7, [(3, .bool r3)], [(2000, .cells 28 [.b16 x2])], [2000], 0⟩) rfl rfl ⟨.refl _, trivial⟩ ⟨⟨_, rfl, .refl _⟩, trivial⟩) ?_
  refine AWp.ret ?_
  exact bodyQ_ret _ rfl ⟨rfl, rfl⟩ rfl
def f73_L0 (x1 : List (BitVec 16)) (K1 : (BitVec 16) → Option (Int × BitVec 16)) : Nat → (Nat × BitVec 16) → Option (Int × BitVec 16)
  | 0, _ => none
  | k + 1, (n3, w4) =>
    if (decide (((n3 : Nat) : Int) < (((x1).length : Nat) : Int))) then (
    (f54 (x1.getD n3 0#16) w4).bind fun (r5 : Bool × BitVec 16) =>
    chk (((n3 : Nat) : Int) < (((x1).length : Nat) : Int)) <|
    if r5.1 then (
    some (((n3 : Nat) : Int), r5.2)
    ) else (
    chk ((((n3 : Nat) : Int) + (1 : Int)) ≤ 9223372036854775807) <|
    (f73_L0 x1 K1 k) ((n3 + 1), r5.2)
    )
    ) else (
    K1 w4
    )
def f73 (x1 : List (BitVec 16)) (x2 : BitVec 16) : Option (Int × BitVec 16) :=
  jn (fun (w6 : BitVec 16) =>
  some ((-1 : Int), w6)
  ) fun (K1 : (BitVec 16) → Option (Int × BitVec 16)) =>
  f73_L0 x1 K1 FUEL (0, x2)
set_option maxRecDepth 100000 in
theorem f73_ok  (x1 : List (BitVec 16)) (x2 : BitVec 16) (r : Int × BitVec 16) (h : f73 x1 x2 = some r)  : Spec1 Tryd.prog 73 [] [2000] [(2000, .cells 28 [.b16 x2])] [vL 1 eW 0#16 x1, .fn (.func 54) [.ptr 2000 0]] (.int .i64 r.1) [(2000, .cells 28 [.b16 r.2])] := by
  unfold f73 at h
  refine Spec1.body 0 _ _ Tryd.func73 rfl Tryd.ntmps73 rfl rfl ?_
  refine AWp.seq ?_
  refine AWp.regC [] [] [0, 1] [2000] ⟨19, [(0, vL 1 eW 0#16 x1), (1, .fn (.func 54) [.ptr 2000 0])], [(2000, .cells 28 [.b16 x2])], [2000], 0⟩ (True) Tryd_mixed (by kernel_rfl) trivial ?_
  refine thenQ_normal ?_
  obtain ⟨K1, hK1, h⟩ := jn_some h
  refine AWp.join (α := BitVec 16) (fun (w6 : BitVec 16) => ⟨19, [], [(2000, .cells 28 [.b16 w6])], [2000], 0⟩) (fun x => K1 x = some r) ?_ ?_
  ·
    refine AWp.seq ?_
    refine AWp.regC [] [] [0, 1, 7, 8] [2000] ⟨19, [(0, vL 1 eW 0#16 x1), (1, .fn (.func 54) [.ptr 2000 0]), (7, .int .i64 (((x1).length : Nat) : Int)), (8, .int .i64 (0 : Int))], [(2000, .cells 28 [.b16 x2])], [2000], 0⟩ (True) Tryd_mixed (by kernel_rfl) trivial ?_
    refine thenQ_normal ?_
    refine AWp.block ?_
    refine AWp.loopL (α := Nat × (Nat × BitVec 16)) (fun x => match x with | (_, n3, w4) => ⟨19, [(0, vL 1 eW 0#16 x1), (1, .fn (.func 54) [.ptr 2000 0]), (7, .int .i64 (((x1).length : Nat) : Int)), (8, .int .i64 ((n3 : Nat) : Int))], [(2000, .cells 28 [.b16 w4])], [2000], 0⟩) (fun x => f73_L0 x1 K1 x.1 x.2 = some r) (fun x => x.1) (FUEL, 0, x2) (Le.mk (s := ⟨19, [(0, vL 1 eW 0#16 x1), (1, .fn (.func 54) [.ptr 2000 0]), (7, .int .i64 (((x1).length : Nat) : Int)), (8, .int .i64 (0 : Int))], [(2000, .cells 28 [.b16 x2])], [2000], 0⟩) (s' := ⟨19, [(0, vL 1 eW 0#16 x1), (1, .fn (.func 54) [.ptr 2000 0]), (7, .int .i64 (((x1).length : Nat) : Int)), (8, .int .i64 (0 : Int))], [(2000, .cells 28 [.b16 x2])], [2000], 0⟩) rfl rfl ⟨.refl _, .refl _, .refl _, .refl _, trivial⟩ ⟨⟨_, rfl, .refl _⟩, trivial⟩) h ?_
    rintro ⟨k0, n3, w4⟩ h
    cases k0 with
    | zero => exact nomatch (show (none : Option (Int × BitVec 16)) = some r from h)
    | succ k0 =>
    obtain ⟨C0, hC0⟩ : ∃ C, C = f73_L0 x1 K1 k0 := ⟨_, rfl⟩
    replace h := (f73_L0.eq_2 ..).symm.trans h
    try rw [← hC0] at h
    refine AWp.seq ?_
    refine AWp.regC [] [] [0, 1, 7, 8, 9] [2000] ⟨19, [(0, vL 1 eW 0#16 x1), (1, .fn (.func 54) [.ptr 2000 0]), (7, .int .i64 (((x1).length : Nat) : Int)), (8, .int .i64 ((n3 : Nat) : Int)), (9, .bool (decide (((n3 : Nat) : Int) < (((x1).length : Nat) : Int))))], [(2000, .cells 28 [.b16 w4])], [2000], 0⟩ (True) Tryd_mixed (by kernel_rfl) trivial ?_
    refine thenQ_normal ?_
    refine AWp.seq ?_
    refine AWp.cond (b := (decide (((n3 : Nat) : Int) < (((x1).length : Nat) : Int)))) (by kernel_rfl) (fun hc1 => ?_) (fun hc1 => ?_)
    ·
      replace h := ite_tb hc1 h
      refine AWp.skip ?_
      refine thenQ_normal ?_
      refine AWp.seq ?_
      refine AWp.block ?_
      refine AWp.seq ?_
      refine AWp.regC [] [] [0, 1, 5, 7, 8] [2000] ⟨19, [(0, vL 1 eW 0#16 x1), (1, .fn (.func 54) [.ptr 2000 0]), (5, .int .i64 ((n3 : Nat) : Int)), (7, .int .i64 (((x1).length : Nat) : Int)), (8, .int .i64 ((n3 : Nat) : Int))], [(2000, .cells 28 [.b16 w4])], [2000], 0⟩ (True) Tryd_mixed (by kernel_rfl) trivial ?_
      refine thenQ_normal ?_
      refine AWp.seq ?_
      obtain ⟨r5, hr5, h⟩ := bind_ok h
      obtain ⟨ob0p, h⟩ := chk_some h
      have ob0 : 0 ≤ ((n3 : Nat) : Int) ∧ ((n3 : Nat) : Int) < (((x1).length : Nat) : Int) := ⟨by omega, ob0p⟩
      refine AWp.regC [] [(5, ⟨[.b16 (x1.getD n3 0#16), .ptr 2000 0], [2000], [2000], [(2000, .cells 28 [.b16 r5.2])], .bool r5.1, [], [], []⟩)] [0, 1, 5, 7, 8, 16] [2000] ⟨19, [(0, vL 1 eW 0#16 x1), (1, .fn (.func 54) [.ptr 2000 0]), (5, .int .i64 ((n3 : Nat) : Int)), (7, .int .i64 (((x1).length : Nat) : Int)), (8, .int .i64 ((n3 : Nat) : Int)), (16, .bool r5.1)], [(2000, .cells 28 [.b16 r5.2])], [2000], 0⟩ ((0 ≤ ((n3 : Nat) : Int) ∧ ((n3 : Nat) : Int) < (((x1).length : Nat) : Int)) ∧ (callP Tryd.prog true 54 [] [2000] [(2000, .cells 28 [.b16 w4])] [] [] [.b16 (x1.getD n3 0#16), .ptr 2000 0] [.b16 (x1.getD n3 0#16), .ptr 2000 0] (.bool r5.1) [(2000, .cells 28 [.b16 r5.2])]) ∧ True) Tryd_mixed (by kernel_rfl) ⟨ob0, ⟨fun _ => (f54_ok (x1.getD n3 0#16) w4 r5 hr5), fun _ => ⟨.refl _, .refl _, trivial⟩, .inl rfl⟩, trivial⟩ ?_
      refine thenQ_normal ?_
      refine AWp.cond (b := r5.1) (by kernel_rfl) (fun hc2 => ?_) (fun hc2 => ?_)
      ·
        replace h := ite_tb hc2 h
        refine AWp.seq ?_
        refine AWp.regC [] [] [4] [2000] ⟨19, [(4, .int .i64 ((n3 : Nat) : Int))], [(2000, .cells 28 [.b16 r5.2])], [2000], 0⟩ (True) Tryd_mixed (by kernel_rfl) trivial ?_
        refine thenQ_normal ?_
        have hret := Option.some.inj h
        subst hret
        refine AWp.le (Le.mk (s := ⟨19, [(4, .int .i64 ((n3 : Nat) : Int))], [(2000, .cells 28 [.b16 r5.2])], [2000], 0⟩) (s' := ⟨19, [(4, .int .i64 ((n3 : Nat) : Int))], [(2000, .cells 28 [.b16 r5.2])], [2000], 0⟩) rfl rfl ⟨.refl _, trivial⟩ ⟨⟨_, rfl, .refl _⟩, trivial⟩) ?_
        refine AWp.ret ?_
        refine blockQ_ret ?_
        refine thenQ_ret ?_
        refine thenQ_ret ?_
        refine blockQ_ret ?_
        refine joinQ_ret ?_
        exact bodyQ_ret _ rfl ⟨rfl, rfl⟩ rfl
      ·
        replace h := ite_fb hc2 h
        refine AWp.skip ?_
        refine blockQ_normal ?_
        refine thenQ_normal ?_
        obtain ⟨ob1p, h⟩ := chk_some h
        have ob1 : -9223372036854775808 ≤ (((n3 : Nat) : Int) + (1 : Int)) ∧ (((n3 : Nat) : Int) + (1 : Int)) ≤ 9223372036854775807 := ⟨by omega, ob1p⟩
        refine AWp.regC [] [] [0, 1, 7, 8] [2000] ⟨19, [(0, vL 1 eW 0#16 x1), (1, .fn (.func 54) [.ptr 2000 0]), (7, .int .i64 (((x1).length : Nat) : Int)), (8, .int .i64 (((n3 + 1) : Nat) : Int))], [(2000, .cells 28 [.b16 r5.2])], [2000], 0⟩ ((-9223372036854775808 ≤ (((n3 : Nat) : Int) + (1 : Int)) ∧ (((n3 : Nat) : Int) + (1 : Int)) ≤ 9223372036854775807) ∧ True) Tryd_mixed (by kernel_rfl) ⟨ob1, trivial⟩ ?_
        rw [hC0] at h
        exact loopQ_normal (_, (n3 + 1), r5.2) (Le.mk (s := ⟨19, [(0, vL 1 eW 0#16 x1), (1, .fn (.func 54) [.ptr 2000 0]), (7, .int .i64 (((x1).length : Nat) : Int)), (8, .int .i64 (((n3 + 1) : Nat) : Int))], [(2000, .cells 28 [.b16 r5.2])], [2000], 0⟩) (s' := ⟨19, [(0, vL 1 eW 0#16 x1), (1, .fn (.func 54) [.ptr 2000 0]), (7, .int .i64 (((x1).length : Nat) : Int)), (8, .int .i64 (((n3 + 1) : Nat) : Int))], [(2000, .cells 28 [.b16 r5.2])], [2000], 0⟩) rfl rfl ⟨.refl _, .refl _, .refl _, .refl _, trivial⟩ ⟨⟨_, rfl, .refl _⟩, trivial⟩) h (Nat.lt_succ_self _)
    ·
      replace h := ite_fb hc1 h
      refine AWp.exit ?_
      refine thenQ_exit ?_
      refine thenQ_exit ?_
      refine blockQ_same ?_
      exact joinQ_normal (w4) (Le.mk (s := ⟨19, [(0, vL 1 eW 0#16 x1), (1, .fn (.func 54) [.ptr 2000 0]), (7, .int .i64 (((x1).length : Nat) : Int)), (8, .int .i64 ((n3 : Nat) : Int)), (9, .bool (decide (((n3 : Nat) : Int) < (((x1).length : Nat) : Int))))], [(2000, .cells 28 [.b16 w4])], [2000], 0⟩) (s' := ⟨19, [], [(2000, .cells 28 [.b16 w4])], [2000], 0⟩) rfl rfl trivial ⟨⟨_, rfl, .refl _⟩, trivial⟩) h
  ·
    rintro w6 h
    replace h := (congrFun hK1 _).symm.trans h
    refine AWp.seq ?_
    refine AWp.regC [] [] [4] [2000] ⟨19, [(4, .int .i64 (-1 : Int))], [(2000, .cells 28 [.b16 w6])], [2000], 0⟩ (True) Tryd_mixed (by kernel_rfl) trivial ?_
    refine thenQ_normal ?_
    have hret := Option.some.inj h
    subst hret
    refine AWp.le (Le.mk (s := ⟨19, [(4, .int .i64 (-1 : Int))], [(2000, .cells 28 [.b16 w6])], [2000], 0⟩) (s' := ⟨19, [(4, .int .i64 (-1 : Int))], [(2000, .cells 28 [.b16 w6])], [2000], 0⟩) rfl rfl ⟨.refl _, trivial⟩ ⟨⟨_, rfl, .refl _⟩, trivial⟩) ?_
    refine AWp.ret ?_
    exact bodyQ_ret _ rfl ⟨rfl, rfl⟩ rfl
def f53 (x1 : List (BitVec 16)) (x2 : BitVec 16) : Option (Bool × BitVec 16) :=
  (f73 x1 x2).bind fun (r3 : Int × BitVec 16) =>
  some ((decide (r3.1 ≥ (0 : Int))), r3.2)
set_option maxRecDepth 100000 in
theorem f53_ok  (x1 : List (BitVec 16)) (x2 : BitVec 16) (r : Bool × BitVec 16) (h : f53 x1 x2 = some r)  : Spec1 Tryd.prog 53 [] [2000] [(2000, .cells 28 [.b16 x2])] [vL 1 eW 0#16 x1, .fn (.func 54) [.ptr 2000 0]] (.bool r.1) [(2000, .cells 28 [.b16 r.2])] := by
  unfold f53 at h
  refine Spec1.body 0 _ _ Tryd.func53 rfl Tryd.ntmps53 rfl rfl ?_
  refine AWp.seq ?_
  refine AWp.regC [] [] [0, 1] [2000] ⟨9, [(0, vL 1 eW 0#16 x1), (1, .fn (.func 54) [.ptr 2000 0])], [(2000, .cells 28 [.b16 x2])], [2000], 0⟩ (True) Tryd_mixed (by kernel_rfl) trivial ?_
  refine thenQ_normal ?_
  refine AWp.seq ?_
  obtain ⟨r3, hr3, h⟩ := bind_ok h
  refine AWp.regC [] [(2, ⟨[vL 1 eW 0#16 x1, .fn (.func 54) [.ptr 2000 0]], [2000], [2000], [(2000, .cells 28 [.b16 r3.2])], .int .i64 r3.1, [], [], []⟩)] [4] [2000] ⟨9, [(4, .bool (decide (r3.1 ≥ (0 : Int))))], [(2000, .cells 28 [.b16 r3.2])], [2000], 0⟩ ((callP Tryd.prog true 73 [] [2000] [(2000, .cells 28 [.b16 x2])] [] [] [vL 1 eW 0#16 x1, .fn (.func 54) [.ptr 2000 0]] [vL 1 eW 0#16 x1, .fn (.func 54) [.ptr 2000 0]] (.int .i64 r3.1) [(2000, .cells 28 [.b16 r3.2])]) ∧ True) Tryd_mixed (by kernel_rfl) ⟨⟨fun _ => (f73_ok x1 x2 r3 hr3), fun _ => ⟨.refl _, .refl _, trivial⟩, .inl rfl⟩, trivial⟩ ?_
  refine thenQ_normal ?_
  have hret := Option.some.inj h
  subst hret
  refine AWp.le (Le.mk (s := ⟨9, [(4, .bool (decide (r3.1 ≥ (0 : Int))))], [(2000, .cells 28 [.b16 r3.2])], [2000], 0⟩) (s' := ⟨9, [(4, .bool (decide (r3.1 ≥ (0 : Int))))], [(2000, .cells 28 [.b16 r3.2])], [2000], 0⟩) rfl rfl ⟨.refl _, trivial⟩ ⟨⟨_, rfl, .refl _⟩, trivial⟩) ?_
  refine AWp.ret ?_
  exact bodyQ_ret _ rfl ⟨rfl, rfl⟩ rfl
def f27 (x1 : List (BitVec 16)) (x2 : BitVec 16) : Option Bool :=
  (f53 x1 x2).bind fun (r3 : Bool × BitVec 16) =>
  some r3.1
set_option maxRecDepth 100000 in
theorem f27_ok  (x1 : List (BitVec 16)) (x2 : BitVec 16) (r : Bool) (h : f27 x1 x2 = some r)  : Spec1 Tryd.prog 27 [] [] [] [vL 1 eW 0#16 x1, .b16 x2] (.bool r) [] := by
  unfold f27 at h
  refine Spec1.body 0 _ _ Tryd.func27 rfl Tryd.ntmps27 rfl rfl ?_
  refine AWp.seq ?_
  refine AWp.regC [] [] [0, 3] [3] ⟨8, [(0, vL 1 eW 0#16 x1), (3, .ptr 3 0)], [(3, .cells 28 [.b16 x2])], [], 0⟩ (True) Tryd_mixed (by kernel_rfl) trivial ?_
  refine thenQ_normal ?_
  refine AWp.seq ?_
  obtain ⟨r3, hr3, h⟩ := bind_ok h
  refine AWp.regC [] [(2, ⟨[vL 1 eW 0#16 x1, .fn (.func 54) [.ptr 3 0]], [3], [3], [(3, .cells 28 [.b16 r3.2])], .bool r3.1, [], [], []⟩)] [4] [] ⟨8, [(4, .bool r3.1)], [], [], 0⟩ ((callP Tryd.prog true 53 [] [3] [(3, .cells 28 [.b16 x2])] [] [] [vL 1 eW 0#16 x1, .fn (.func 54) [.ptr 3 0]] [vL 1 eW 0#16 x1, .fn (.func 54) [.ptr 3 0]] (.bool r3.1) [(3, .cells 28 [.b16 r3.2])]) ∧ True) Tryd_mixed (by kernel_rfl) ⟨⟨fun _ => (Spec1.ren (swapN 2000 3) (swapN_inv 2000 3) rfl (f53_ok x1 x2 r3 hr3)), fun _ => ⟨.refl _, .refl _, trivial⟩, .inl rfl⟩, trivial⟩ ?_
  refine thenQ_normal ?_
  have hret := Option.some.inj h
  subst hret
  refine AWp.le (Le.mk (s := ⟨8, [(4, .bool r3.1)], [], [], 0⟩) (s' := ⟨8, [(4, .bool r3.1)], [], [], 0⟩) rfl rfl ⟨.refl _, trivial⟩ trivial) ?_
  refine AWp.ret ?_
  exact bodyQ_ret _ rfl ⟨rfl, rfl⟩ rfl
def f11_L0 (x1 : List (BitVec 16)) (K1 : Unit → Option Int) : Nat → Nat → Option Int
  | 0, _ => none
  | k + 1, n2 =>
    if (decide (((n2 : Nat) : Int) < (((x1).length : Nat) : Int))) then (
    chk (((n2 : Nat) : Int) < (((x1).length : Nat) : Int)) <|
    if (!(((x1.getD n2 0#16) &&& (BitVec.ofInt 16 61440)) == (BitVec.ofInt 16 0))) then (
    some (7 : Int)
    ) else (
    optc ((decide (((n2 : Nat) : Int) > (0 : Int))) == true) (f38 (x1.getD (((((n2 : Nat) : Int) - (1 : Int))).toNat) 0#16) (x1.getD n2 0#16)) fun (r3 : Int) =>
    chk (((decide (((n2 : Nat) : Int) > (0 : Int))) == true) = true → -9223372036854775808 ≤ (((n2 : Nat) : Int) - (1 : Int)) ∧ (((n2 : Nat) : Int) - (1 : Int)) ≤ 9223372036854775807) <|
    chk (((decide (((n2 : Nat) : Int) > (0 : Int))) == true) = true → 0 ≤ (((n2 : Nat) : Int) - (1 : Int)) ∧ (((n2 : Nat) : Int) - (1 : Int)) < (((x1).length : Nat) : Int)) <|
    if ((decide (((n2 : Nat) : Int) > (0 : Int))) && (decide (r3 ≥ (0 : Int)))) then (
    some (1 : Int)
    ) else (
    chk ((((n2 : Nat) : Int) + (1 : Int)) ≤ 9223372036854775807) <|
    (f11_L0 x1 K1 k) (n2 + 1)
    )
    )
    ) else (
    K1 ()
    )
def f11_L1 (x1 : List (BitVec 16)) (K2 : Unit → Option Int) : Nat → Nat → Option Int
  | 0, _ => none
  | k + 1, n4 =>
    if (decide (((n4 : Nat) : Int) < (((x1).length : Nat) : Int))) then (
    chk (((n4 : Nat) : Int) < (((x1).length : Nat) : Int)) <|
    (f27 (x1.take n4) (x1.getD n4 0#16)).bind fun (r5 : Bool) =>
    chk (((n4 : Nat) : Int) ≤ (((x1).length : Nat) : Int)) <|
    if r5 then (
    some (1 : Int)
    ) else (
    chk ((((n4 : Nat) : Int) + (1 : Int)) ≤ 9223372036854775807) <|
    (f11_L1 x1 K2 k) (n4 + 1)
    )
    ) else (
    K2 ()
    )
def f11 (x1 : List (BitVec 16)) : Option Int :=
  if (decide ((((x1).length : Nat) : Int) > (400 : Int))) then (
  some (3 : Int)
  ) else (
  jn (fun (_ : Unit) =>
  jn (fun (_ : Unit) =>
  some (0 : Int)
  ) fun (K2 : Unit → Option Int) =>
  f11_L1 x1 K2 FUEL 0
  ) fun (K1 : Unit → Option Int) =>
  f11_L0 x1 K1 FUEL 0
  )
set_option maxRecDepth 100000 in
theorem f11_ok  (x1 : List (BitVec 16)) (r : Int) (h : f11 x1 = some r)  : Spec1 Tryd.prog 11 [] [] [] [vL 1 eW 0#16 x1] (.int .i64 r) [] := by
  unfold f11 at h
  refine Spec1.body 0 _ _ Tryd.func11 rfl Tryd.ntmps11 rfl rfl ?_
  refine AWp.seq ?_
  refine AWp.regC [] [] [0] [] ⟨48, [(0, vL 1 eW 0#16 x1)], [], [], 0⟩ (True) Tryd_mixed (by kernel_rfl) trivial ?_
  refine thenQ_normal ?_
  refine AWp.seq ?_
  refine AWp.seq ?_
  refine AWp.regC [] [] [0, 9] [] ⟨48, [(0, vL 1 eW 0#16 x1), (9, .bool (decide ((((x1).length : Nat) : Int) > (400 : Int))))], [], [], 0⟩ (True) Tryd_mixed (by kernel_rfl) trivial ?_
  refine thenQ_normal ?_
  refine AWp.cond (b := (decide ((((x1).length : Nat) : Int) > (400 : Int)))) (by kernel_rfl) (fun hc1 => ?_) (fun hc1 => ?_)
  ·
    replace h := ite_tb hc1 h
    refine AWp.seq ?_
    refine AWp.regC [] [] [2] [] ⟨48, [(2, .int .i64 (3 : Int))], [], [], 0⟩ (True) Tryd_mixed (by kernel_rfl) trivial ?_
    refine thenQ_normal ?_
    have hret := Option.some.inj h
    subst hret
    refine AWp.le (Le.mk (s := ⟨48, [(2, .int .i64 (3 : Int))], [], [], 0⟩) (s' := ⟨48, [(2, .int .i64 (3 : Int))], [], [], 0⟩) rfl rfl ⟨.refl _, trivial⟩ trivial) ?_
    refine AWp.ret ?_
    refine thenQ_ret ?_
    exact bodyQ_ret _ rfl ⟨rfl, rfl⟩ rfl
  ·
    replace h := ite_fb hc1 h
    refine AWp.skip ?_
    refine thenQ_normal ?_
    obtain ⟨K1, hK1, h⟩ := jn_some h
    refine AWp.join (α := Unit) (fun (x : Unit) => match x with | () => ⟨48, [(0, vL 1 eW 0#16 x1)], [], [], 0⟩) (fun x => K1 x = some r) ?_ ?_
    ·
      refine AWp.seq ?_
      refine AWp.regC [] [] [0, 10, 11, 12] [] ⟨48, [(0, vL 1 eW 0#16 x1), (10, vL 1 eW 0#16 x1), (11, .int .i64 (((x1).length : Nat) : Int)), (12, .int .i64 (0 : Int))], [], [], 0⟩ (True) Tryd_mixed (by kernel_rfl) trivial ?_
      refine thenQ_normal ?_
      refine AWp.block ?_
      refine AWp.loopL (α := Nat × Nat) (fun x => match x with | (_, n2) => ⟨48, [(0, vL 1 eW 0#16 x1), (10, vL 1 eW 0#16 x1), (11, .int .i64 (((x1).length : Nat) : Int)), (12, .int .i64 ((n2 : Nat) : Int))], [], [], 0⟩) (fun x => f11_L0 x1 K1 x.1 x.2 = some r) (fun x => x.1) (FUEL, 0) (Le.mk (s := ⟨48, [(0, vL 1 eW 0#16 x1), (10, vL 1 eW 0#16 x1), (11, .int .i64 (((x1).length : Nat) : Int)), (12, .int .i64 (0 : Int))], [], [], 0⟩) (s' := ⟨48, [(0, vL 1 eW 0#16 x1), (10, vL 1 eW 0#16 x1), (11, .int .i64 (((x1).length : Nat) : Int)), (12, .int .i64 (0 : Int))], [], [], 0⟩) rfl rfl ⟨.refl _, .refl _, .refl _, .refl _, trivial⟩ trivial) h ?_
      rintro ⟨k0, n2⟩ h
      cases k0 with
      | zero => exact nomatch (show (none : Option Int) = some r from h)
      | succ k0 =>
      obtain ⟨C0, hC0⟩ : ∃ C, C = f11_L0 x1 K1 k0 := ⟨_, rfl⟩
      replace h := (f11_L0.eq_2 ..).symm.trans h
      try rw [← hC0] at h
      refine AWp.seq ?_
      refine AWp.regC [] [] [0, 10, 11, 12, 13] [] ⟨48, [(0, vL 1 eW 0#16 x1), (10, vL 1 eW 0#16 x1), (11, .int .i64 (((x1).length : Nat) : Int)), (12, .int .i64 ((n2 : Nat) : Int)), (13, .bool (decide (((n2 : Nat) : Int) < (((x1).length : Nat) : Int))))], [], [], 0⟩ (True) Tryd_mixed (by kernel_rfl) trivial ?_
      refine thenQ_normal ?_
      refine AWp.seq ?_
      refine AWp.cond (b := (decide (((n2 : Nat) : Int) < (((x1).length : Nat) : Int)))) (by kernel_rfl) (fun hc2 => ?_) (fun hc2 => ?_)
      ·
        replace h := ite_tb hc2 h
        refine AWp.skip ?_
        refine thenQ_normal ?_
        refine AWp.seq ?_
        refine AWp.block ?_
        refine AWp.seq ?_
        obtain ⟨ob0p, h⟩ := chk_some h
        have ob0 : 0 ≤ ((n2 : Nat) : Int) ∧ ((n2 : Nat) : Int) < (((x1).length : Nat) : Int) := ⟨by omega, ob0p⟩
        refine AWp.regC [] [] [0, 3, 4, 10, 11, 12] [] ⟨48, [(0, vL 1 eW 0#16 x1), (3, .int .i64 ((n2 : Nat) : Int)), (4, .b16 (x1.getD n2 0#16)), (10, vL 1 eW 0#16 x1), (11, .int .i64 (((x1).length : Nat) : Int)), (12, .int .i64 ((n2 : Nat) : Int))], [], [], 0⟩ ((0 ≤ ((n2 : Nat) : Int) ∧ ((n2 : Nat) : Int) < (((x1).length : Nat) : Int)) ∧ True) Tryd_mixed (by kernel_rfl) ⟨ob0, trivial⟩ ?_
        refine thenQ_normal ?_
        refine AWp.block ?_
        refine AWp.seq ?_
        refine AWp.regC [] [] [0, 3, 4, 10, 11, 12, 17] [] ⟨48, [(0, vL 1 eW 0#16 x1), (3, .int .i64 ((n2 : Nat) : Int)), (4, .b16 (x1.getD n2 0#16)), (10, vL 1 eW 0#16 x1), (11, .int .i64 (((x1).length : Nat) : Int)), (12, .int .i64 ((n2 : Nat) : Int)), (17, .bool (!(((x1.getD n2 0#16) &&& (BitVec.ofInt 16 61440)) == (BitVec.ofInt 16 0))))], [], [], 0⟩ (True) Tryd_mixed (by kernel_rfl) trivial ?_
        refine thenQ_normal ?_
        refine AWp.cond (b := (!(((x1.getD n2 0#16) &&& (BitVec.ofInt 16 61440)) == (BitVec.ofInt 16 0)))) (by kernel_rfl) (fun hc3 => ?_) (fun hc3 => ?_)
        ·
          replace h := ite_tb hc3 h
          refine AWp.seq ?_
          refine AWp.regC [] [] [2] [] ⟨48, [(2, .int .i64 (7 : Int))], [], [], 0⟩ (True) Tryd_mixed (by kernel_rfl) trivial ?_
          refine thenQ_normal ?_
          have hret := Option.some.inj h
          subst hret
          refine AWp.le (Le.mk (s := ⟨48, [(2, .int .i64 (7 : Int))], [], [], 0⟩) (s' := ⟨48, [(2, .int .i64 (7 : Int))], [], [], 0⟩) rfl rfl ⟨.refl _, trivial⟩ trivial) ?_
          refine AWp.ret ?_
          refine blockQ_ret ?_
          refine blockQ_ret ?_
          refine thenQ_ret ?_
          refine thenQ_ret ?_
          refine blockQ_ret ?_
          refine joinQ_ret ?_
          exact bodyQ_ret _ rfl ⟨rfl, rfl⟩ rfl
        ·
          replace h := ite_fb hc3 h
          refine AWp.seq ?_
          obtain ⟨r3, hr3, h⟩ := optc_some h
          obtain ⟨ob1, h⟩ := chk_some h
          have ob2 : ((decide (((n2 : Nat) : Int) > (0 : Int))) == true) = true → ((decide (((n2 : Nat) : Int) > (0 : Int))) == true) = true := fun h => h
          obtain ⟨ob3, h⟩ := chk_some h
          have ob4 : ((decide (((n2 : Nat) : Int) > (0 : Int))) == true) = true → ((decide (((n2 : Nat) : Int) > (0 : Int))) == true) = true := fun h => h
          have ob5 : ((decide (((n2 : Nat) : Int) > (0 : Int))) == true) = true → ((decide (((n2 : Nat) : Int) > (0 : Int))) == true) = true := fun h => h
          have ob6 : ((decide (((n2 : Nat) : Int) > (0 : Int))) == true) = true → ((decide (((n2 : Nat) : Int) > (0 : Int))) == true) = true := fun h => h
          have ob7 : ((decide (((n2 : Nat) : Int) > (0 : Int))) == true) = true → ((decide (((n2 : Nat) : Int) > (0 : Int))) == true) = true := fun h => h
          have ob8 : ((decide (((n2 : Nat) : Int) > (0 : Int))) == true) = true → ((decide (((n2 : Nat) : Int) > (0 : Int))) == true) = true := fun h => h
          have ob9 : ((decide (((n2 : Nat) : Int) > (0 : Int))) == true) = true → ((decide (((n2 : Nat) : Int) > (0 : Int))) == true) = true := fun h => h
          have ob10 : true = true → (decide (((n2 : Nat) : Int) > (0 : Int))) = true → ((decide (((n2 : Nat) : Int) > (0 : Int))) == true) = true := fun _ h => beq_iff_eq.2 h
          refine AWp.regC [] [(9, ⟨[.b16 (x1.getD (((((n2 : Nat) : Int) - (1 : Int))).toNat) 0#16), .b16 (x1.getD n2 0#16)], [], [], [], .int .i64 r3, [], [], []⟩)] [0, 10, 11, 12, 21] [] ⟨48, [(0, vL 1 eW 0#16 x1), (10, vL 1 eW 0#16 x1), (11, .int .i64 (((x1).length : Nat) : Int)), (12, .int .i64 ((n2 : Nat) : Int)), (21, .bool ((decide (((n2 : Nat) : Int) > (0 : Int))) && (decide (r3 ≥ (0 : Int)))))], [], [], 0⟩ (((((decide (((n2 : Nat) : Int) > (0 : Int))) == true) = true → -9223372036854775808 ≤ (((n2 : Nat) : Int) - (1 : Int)) ∧ (((n2 : Nat) : Int) - (1 : Int)) ≤ 9223372036854775807) ∧ (((decide (((n2 : Nat) : Int) > (0 : Int))) == true) = true → ((decide (((n2 : Nat) : Int) > (0 : Int))) == true) = true) ∧ True) ∧ ((((decide (((n2 : Nat) : Int) > (0 : Int))) == true) = true → 0 ≤ (((n2 : Nat) : Int) - (1 : Int)) ∧ (((n2 : Nat) : Int) - (1 : Int)) < (((x1).length : Nat) : Int)) ∧ (((decide (((n2 : Nat) : Int) > (0 : Int))) == true) = true → ((decide (((n2 : Nat) : Int) > (0 : Int))) == true) = true) ∧ (((decide (((n2 : Nat) : Int) > (0 : Int))) == true) = true → ((decide (((n2 : Nat) : Int) > (0 : Int))) == true) = true) ∧ True) ∧ ((((decide (((n2 : Nat) : Int) > (0 : Int))) == true) = true → ((decide (((n2 : Nat) : Int) > (0 : Int))) == true) = true) ∧ True) ∧ ((callP Tryd.prog ((decide (((n2 : Nat) : Int) > (0 : Int))) == true) 38 [] [] [] [] [] [.b16 (x1.getD (((((n2 : Nat) : Int) - (1 : Int))).toNat) 0#16), .b16 (x1.getD n2 0#16)] [.b16 (x1.getD (((((n2 : Nat) : Int) - (1 : Int))).toNat) 0#16), .b16 (x1.getD n2 0#16)] (.int .i64 r3) []) ∧ (((decide (((n2 : Nat) : Int) > (0 : Int))) == true) = true → ((decide (((n2 : Nat) : Int) > (0 : Int))) == true) = true) ∧ (((decide (((n2 : Nat) : Int) > (0 : Int))) == true) = true → ((decide (((n2 : Nat) : Int) > (0 : Int))) == true) = true) ∧ True) ∧ ((((decide (((n2 : Nat) : Int) > (0 : Int))) == true) = true → ((decide (((n2 : Nat) : Int) > (0 : Int))) == true) = true) ∧ True) ∧ (true = true → (decide (((n2 : Nat) : Int) > (0 : Int))) = true → ((decide (((n2 : Nat) : Int) > (0 : Int))) == true) = true) ∧ True) Tryd_mixed (by kernel_rfl) ⟨⟨ob1, ob2, trivial⟩, ⟨ob3, ob4, ob5, trivial⟩, ⟨ob6, trivial⟩, ⟨⟨fun hc => (f38_ok (x1.getD (((((n2 : Nat) : Int) - (1 : Int))).toNat) 0#16) (x1.getD n2 0#16) r3 (hr3 hc)), fun _ => ⟨.refl _, .refl _, trivial⟩, .inl rfl⟩, ob7, ob8, trivial⟩, ⟨ob9, trivial⟩, ob10, trivial⟩ ?_
          refine thenQ_normal ?_
          refine AWp.cond (b := ((decide (((n2 : Nat) : Int) > (0 : Int))) && (decide (r3 ≥ (0 : Int))))) (by kernel_rfl) (fun hc4 => ?_) (fun hc4 => ?_)
          ·
            replace h := ite_tb hc4 h
            refine AWp.seq ?_
            refine AWp.regC [] [] [2] [] ⟨48, [(2, .int .i64 (1 : Int))], [], [], 0⟩ (True) Tryd_mixed (by kernel_rfl) trivial ?_
            refine thenQ_normal ?_
            have hret := Option.some.inj h
            subst hret
            refine AWp.le (Le.mk (s := ⟨48, [(2, .int .i64 (1 : Int))], [], [], 0⟩) (s' := ⟨48, [(2, .int .i64 (1 : Int))], [], [], 0⟩) rfl rfl ⟨.refl _, trivial⟩ trivial) ?_
            refine AWp.ret ?_
            refine blockQ_ret ?_
            refine blockQ_ret ?_
            refine thenQ_ret ?_
            refine thenQ_ret ?_
            refine blockQ_ret ?_
            refine joinQ_ret ?_
            exact bodyQ_ret _ rfl ⟨rfl, rfl⟩ rfl
          ·
            replace h := ite_fb hc4 h
            refine AWp.skip ?_
            refine blockQ_normal ?_
            refine blockQ_normal ?_
            refine thenQ_normal ?_
            obtain ⟨ob11p, h⟩ := chk_some h
            have ob11 : -9223372036854775808 ≤ (((n2 : Nat) : Int) + (1 : Int)) ∧ (((n2 : Nat) : Int) + (1 : Int)) ≤ 9223372036854775807 := ⟨by omega, ob11p⟩
            refine AWp.regC [] [] [0, 10, 11, 12] [] ⟨48, [(0, vL 1 eW 0#16 x1), (10, vL 1 eW 0#16 x1), (11, .int .i64 (((x1).length : Nat) : Int)), (12, .int .i64 (((n2 + 1) : Nat) : Int))], [], [], 0⟩ ((-9223372036854775808 ≤ (((n2 : Nat) : Int) + (1 : Int)) ∧ (((n2 : Nat) : Int) + (1 : Int)) ≤ 9223372036854775807) ∧ True) Tryd_mixed (by kernel_rfl) ⟨ob11, trivial⟩ ?_
            rw [hC0] at h
            exact loopQ_normal (_, (n2 + 1)) (Le.mk (s := ⟨48, [(0, vL 1 eW 0#16 x1), (10, vL 1 eW 0#16 x1), (11, .int .i64 (((x1).length : Nat) : Int)), (12, .int .i64 (((n2 + 1) : Nat) : Int))], [], [], 0⟩) (s' := ⟨48, [(0, vL 1 eW 0#16 x1), (10, vL 1 eW 0#16 x1), (11, .int .i64 (((x1).length : Nat) : Int)), (12, .int .i64 (((n2 + 1) : Nat) : Int))], [], [], 0⟩) rfl rfl ⟨.refl _, .refl _, .refl _, .refl _, trivial⟩ trivial) h (Nat.lt_succ_self _)
      ·
        replace h := ite_fb hc2 h
        refine AWp.exit ?_
        refine thenQ_exit ?_
        refine thenQ_exit ?_
        refine blockQ_same ?_
        exact joinQ_normal () (Le.mk (s := ⟨48, [(0, vL 1 eW 0#16 x1), (10, vL 1 eW 0#16 x1), (11, .int .i64 (((x1).length : Nat) : Int)), (12, .int .i64 ((n2 : Nat) : Int)), (13, .bool (decide (((n2 : Nat) : Int) < (((x1).length : Nat) : Int))))], [], [], 0⟩) (s' := ⟨48, [(0, vL 1 eW 0#16 x1)], [], [], 0⟩) rfl rfl ⟨.refl _, trivial⟩ trivial) h
    ·
      rintro ⟨⟩ h
      replace h := (congrFun hK1 _).symm.trans h
      obtain ⟨K2, hK2, h⟩ := jn_some h
      refine AWp.join (α := Unit) (fun (x : Unit) => match x with | () => ⟨48, [], [], [], 0⟩) (fun x => K2 x = some r) ?_ ?_
      ·
        refine AWp.seq ?_
        refine AWp.regC [] [] [0, 35, 36, 37] [] ⟨48, [(0, vL 1 eW 0#16 x1), (35, vL 1 eW 0#16 x1), (36, .int .i64 (((x1).length : Nat) : Int)), (37, .int .i64 (0 : Int))], [], [], 0⟩ (True) Tryd_mixed (by kernel_rfl) trivial ?_
        refine thenQ_normal ?_
        refine AWp.block ?_
        refine AWp.loopL (α := Nat × Nat) (fun x => match x with | (_, n4) => ⟨48, [(0, vL 1 eW 0#16 x1), (35, vL 1 eW 0#16 x1), (36, .int .i64 (((x1).length : Nat) : Int)), (37, .int .i64 ((n4 : Nat) : Int))], [], [], 0⟩) (fun x => f11_L1 x1 K2 x.1 x.2 = some r) (fun x => x.1) (FUEL, 0) (Le.mk (s := ⟨48, [(0, vL 1 eW 0#16 x1), (35, vL 1 eW 0#16 x1), (36, .int .i64 (((x1).length : Nat) : Int)), (37, .int .i64 (0 : Int))], [], [], 0⟩) (s' := ⟨48, [(0, vL 1 eW 0#16 x1), (35, vL 1 eW 0#16 x1), (36, .int .i64 (((x1).length : Nat) : Int)), (37, .int .i64 (0 : Int))], [], [], 0⟩) rfl rfl ⟨.refl _, .refl _, .refl _, .refl _, trivial⟩ trivial) h ?_
        rintro ⟨k1, n4⟩ h
        cases k1 with
        | zero => exact nomatch (show (none : Option Int) = some r from h)
        | succ k1 =>
        obtain ⟨C1, hC1⟩ : ∃ C, C = f11_L1 x1 K2 k1 := ⟨_, rfl⟩
        replace h := (f11_L1.eq_2 ..).symm.trans h
        try rw [← hC1] at h
        refine AWp.seq ?_
        refine AWp.regC [] [] [0, 35, 36, 37, 38] [] ⟨48, [(0, vL 1 eW 0#16 x1), (35, vL 1 eW 0#16 x1), (36, .int .i64 (((x1).length : Nat) : Int)), (37, .int .i64 ((n4 : Nat) : Int)), (38, .bool (decide (((n4 : Nat) : Int) < (((x1).length : Nat) : Int))))], [], [], 0⟩ (True) Tryd_mixed (by kernel_rfl) trivial ?_
        refine thenQ_normal ?_
        refine AWp.seq ?_
        refine AWp.cond (b := (decide (((n4 : Nat) : Int) < (((x1).length : Nat) : Int)))) (by kernel_rfl) (fun hc5 => ?_) (fun hc5 => ?_)
        ·
          replace h := ite_tb hc5 h
          refine AWp.skip ?_
          refine thenQ_normal ?_
          refine AWp.seq ?_
          refine AWp.block ?_
          refine AWp.seq ?_
          obtain ⟨ob12p, h⟩ := chk_some h
          have ob12 : 0 ≤ ((n4 : Nat) : Int) ∧ ((n4 : Nat) : Int) < (((x1).length : Nat) : Int) := ⟨by omega, ob12p⟩
          refine AWp.regC [] [] [0, 5, 6, 35, 36, 37] [] ⟨48, [(0, vL 1 eW 0#16 x1), (5, .int .i64 ((n4 : Nat) : Int)), (6, .b16 (x1.getD n4 0#16)), (35, vL 1 eW 0#16 x1), (36, .int .i64 (((x1).length : Nat) : Int)), (37, .int .i64 ((n4 : Nat) : Int))], [], [], 0⟩ ((0 ≤ ((n4 : Nat) : Int) ∧ ((n4 : Nat) : Int) < (((x1).length : Nat) : Int)) ∧ True) Tryd_mixed (by kernel_rfl) ⟨ob12, trivial⟩ ?_
          refine thenQ_normal ?_
          refine AWp.seq ?_
          obtain ⟨r5, hr5, h⟩ := bind_ok h
          obtain ⟨ob13p, h⟩ := chk_some h
          have ob13 : 0 ≤ ((n4 : Nat) : Int) ∧ ((n4 : Nat) : Int) ≤ (((x1).length : Nat) : Int) := ⟨by omega, ob13p⟩
          refine AWp.regC [] [(4, ⟨[vL 1 eW 0#16 (x1.take n4), .b16 (x1.getD n4 0#16)], [], [], [], .bool r5, [], [], []⟩)] [0, 35, 36, 37, 46] [] ⟨48, [(0, vL 1 eW 0#16 x1), (35, vL 1 eW 0#16 x1), (36, .int .i64 (((x1).length : Nat) : Int)), (37, .int .i64 ((n4 : Nat) : Int)), (46, .bool r5)], [], [], 0⟩ ((0 ≤ ((n4 : Nat) : Int) ∧ ((n4 : Nat) : Int) ≤ (((x1).length : Nat) : Int)) ∧ (callP Tryd.prog true 27 [] [] [] [] [] [.arr 1 n4 (encF eW 0#16 x1), .b16 (x1.getD n4 0#16)] [vL 1 eW 0#16 (x1.take n4), .b16 (x1.getD n4 0#16)] (.bool r5) []) ∧ True) Tryd_mixed (by kernel_rfl) ⟨ob13, ⟨fun _ => (f27_ok (x1.take n4) (x1.getD n4 0#16) r5 hr5), fun _ => ⟨(VLe.takeL (by first | omega | (simp only [List.length_append, List.length_cons, List.length_nil, List.length_take, List.length_drop] at *; omega) | (simp; done) | (simp_all; done) | (simp_all; omega) | rfl)), .refl _, trivial⟩, .inl rfl⟩, trivial⟩ ?_
          refine thenQ_normal ?_
          refine AWp.cond (b := r5) (by kernel_rfl) (fun hc6 => ?_) (fun hc6 => ?_)
          ·
            replace h := ite_tb hc6 h
            refine AWp.seq ?_
            refine AWp.regC [] [] [2] [] ⟨48, [(2, .int .i64 (1 : Int))], [], [], 0⟩ (True) Tryd_mixed (by kernel_rfl) trivial ?_
            refine thenQ_normal ?_
            have hret := Option.some.inj h
            subst hret
            refine AWp.le (Le.mk (s := ⟨48, [(2, .int .i64 (1 : Int))], [], [], 0⟩) (s' := ⟨48, [(2, .int .i64 (1 : Int))], [], [], 0⟩) rfl rfl ⟨.refl _, trivial⟩ trivial) ?_
            refine AWp.ret ?_
            refine blockQ_ret ?_
            refine thenQ_ret ?_
            refine thenQ_ret ?_
            refine blockQ_ret ?_
            refine joinQ_ret ?_
            exact bodyQ_ret _ rfl ⟨rfl, rfl⟩ rfl
          ·
            replace h := ite_fb hc6 h
            refine AWp.skip ?_
            refine blockQ_normal ?_
            refine thenQ_normal ?_
            obtain ⟨ob14p, h⟩ := chk_some h
            have ob14 : -9223372036854775808 ≤ (((n4 : Nat) : Int) + (1 : Int)) ∧ (((n4 : Nat) : Int) + (1 : Int)) ≤ 9223372036854775807 := ⟨by omega, ob14p⟩
            refine AWp.regC [] [] [0, 35, 36, 37] [] ⟨48, [(0, vL 1 eW 0#16 x1), (35, vL 1 eW 0#16 x1), (36, .int .i64 (((x1).length : Nat) : Int)), (37, .int .i64 (((n4 + 1) : Nat) : Int))], [], [], 0⟩ ((-9223372036854775808 ≤ (((n4 : Nat) : Int) + (1 : Int)) ∧ (((n4 : Nat) : Int) + (1 : Int)) ≤ 9223372036854775807) ∧ True) Tryd_mixed (by kernel_rfl) ⟨ob14, trivial⟩ ?_
            rw [hC1] at h
            exact loopQ_normal (_, (n4 + 1)) (Le.mk (s := ⟨48, [(0, vL 1 eW 0#16 x1), (35, vL 1 eW 0#16 x1), (36, .int .i64 (((x1).length : Nat) : Int)), (37, .int .i64 (((n4 + 1) : Nat) : Int))], [], [], 0⟩) (s' := ⟨48, [(0, vL 1 eW 0#16 x1), (35, vL 1 eW 0#16 x1), (36, .int .i64 (((x1).length : Nat) : Int)), (37, .int .i64 (((n4 + 1) : Nat) : Int))], [], [], 0⟩) rfl rfl ⟨.refl _, .refl _, .refl _, .refl _, trivial⟩ trivial) h (Nat.lt_succ_self _)
        ·
          replace h := ite_fb hc5 h
          refine AWp.exit ?_
          refine thenQ_exit ?_
          refine thenQ_exit ?_
          refine blockQ_same ?_
          exact joinQ_normal () (Le.mk (s := ⟨48, [(0, vL 1 eW 0#16 x1), (35, vL 1 eW 0#16 x1), (36, .int .i64 (((x1).length : Nat) : Int)), (37, .int .i64 ((n4 : Nat) : Int)), (38, .bool (decide (((n4 : Nat) : Int) < (((x1).length : Nat) : Int))))], [], [], 0⟩) (s' := ⟨48, [], [], [], 0⟩) rfl rfl trivial trivial) h
      ·
        rintro ⟨⟩ h
        replace h := (congrFun hK2 _).symm.trans h
        refine AWp.seq ?_
        refine AWp.regC [] [] [2] [] ⟨48, [(2, .int .i64 (0 : Int))], [], [], 0⟩ (True) Tryd_mixed (by kernel_rfl) trivial ?_
        refine thenQ_normal ?_
        have hret := Option.some.inj h
        subst hret
        refine AWp.le (Le.mk (s := ⟨48, [(2, .int .i64 (0 : Int))], [], [], 0⟩) (s' := ⟨48, [(2, .int .i64 (0 : Int))], [], [], 0⟩) rfl rfl ⟨.refl _, trivial⟩ trivial) ?_
        refine AWp.ret ?_
        exact bodyQ_ret _ rfl ⟨rfl, rfl⟩ rfl
def f48 (x1 : List (BitVec 16)) (x2 : List (BitVec 16)) : Option Int :=
  (f11 x1).bind fun (r3 : Int) =>
  if (r3 != (0 : Int)) then (
  some r3
  ) else (
  (f11 x2).bind fun (r4 : Int) =>
  some r4
  )
set_option maxRecDepth 100000 in
theorem f48_ok  (x1 : List (BitVec 16)) (x2 : List (BitVec 16)) (r : Int) (h : f48 x1 x2 = some r)  : Spec1 Tryd.prog 48 [] [] [] [vL 1 eW 0#16 x1, vL 1 eW 0#16 x2] (.int .i64 r) [] := by
  unfold f48 at h
  refine Spec1.body 0 _ _ Tryd.func48 rfl Tryd.ntmps48 rfl rfl ?_
  refine AWp.seq ?_
  refine AWp.regC [] [] [0, 1] [] ⟨13, [(0, vL 1 eW 0#16 x1), (1, vL 1 eW 0#16 x2)], [], [], 0⟩ (True) Tryd_mixed (by kernel_rfl) trivial ?_
  refine thenQ_normal ?_
  refine AWp.seq ?_
  refine AWp.seq ?_
  obtain ⟨r3, hr3, h⟩ := bind_ok h
  refine AWp.regC [] [(1, ⟨[vL 1 eW 0#16 x1], [], [], [], .int .i64 r3, [], [], []⟩)] [1, 5] [] ⟨13, [(1, vL 1 eW 0#16 x2), (5, .int .i64 r3)], [], [], 0⟩ ((callP Tryd.prog true 11 [] [] [] [] [] [vL 1 eW 0#16 x1] [vL 1 eW 0#16 x1] (.int .i64 r3) []) ∧ True) Tryd_mixed (by kernel_rfl) ⟨⟨fun _ => (f11_ok x1 r3 hr3), fun _ => ⟨.refl _, trivial⟩, .inl rfl⟩, trivial⟩ ?_
  refine thenQ_normal ?_
  refine AWp.seq ?_
  refine AWp.regC [] [] [1, 5, 9] [] ⟨13, [(1, vL 1 eW 0#16 x2), (5, .int .i64 r3), (9, .bool (r3 != (0 : Int)))], [], [], 0⟩ (True) Tryd_mixed (by kernel_rfl) trivial ?_
  refine thenQ_normal ?_
  refine AWp.cond (b := (r3 != (0 : Int))) (by kernel_rfl) (fun hc1 => ?_) (fun hc1 => ?_)
  ·
    replace h := ite_tb hc1 h
    refine AWp.seq ?_
    refine AWp.regC [] [] [4] [] ⟨13, [(4, .int .i64 r3)], [], [], 0⟩ (True) Tryd_mixed (by kernel_rfl) trivial ?_
    refine thenQ_normal ?_
    have hret := Option.some.inj h
    subst hret
    refine AWp.le (Le.mk (s := ⟨13, [(4, .int .i64 r3)], [], [], 0⟩) (s' := ⟨13, [(4, .int .i64 r3)], [], [], 0⟩) rfl rfl ⟨.refl _, trivial⟩ trivial) ?_
    refine AWp.ret ?_
    refine thenQ_ret ?_
    exact bodyQ_ret _ rfl ⟨rfl, rfl⟩ rfl
  ·
    replace h := ite_fb hc1 h
    refine AWp.skip ?_
    refine thenQ_normal ?_
    refine AWp.seq ?_
    obtain ⟨r4, hr4, h⟩ := bind_ok h
    refine AWp.regC [] [(1, ⟨[vL 1 eW 0#16 x2], [], [], [], .int .i64 r4, [], [], []⟩)] [4] [] ⟨13, [(4, .int .i64 r4)], [], [], 0⟩ ((callP Tryd.prog true 11 [] [] [] [] [] [vL 1 eW 0#16 x2] [vL 1 eW 0#16 x2] (.int .i64 r4) []) ∧ True) Tryd_mixed (by kernel_rfl) ⟨⟨fun _ => (f11_ok x2 r4 hr4), fun _ => ⟨.refl _, trivial⟩, .inl rfl⟩, trivial⟩ ?_
    refine thenQ_normal ?_
    have hret := Option.some.inj h
    subst hret
    refine AWp.le (Le.mk (s := ⟨13, [(4, .int .i64 r4)], [], [], 0⟩) (s' := ⟨13, [(4, .int .i64 r4)], [], [], 0⟩) rfl rfl ⟨.refl _, trivial⟩ trivial) ?_
    refine AWp.ret ?_
    exact bodyQ_ret _ rfl ⟨rfl, rfl⟩ rfl
def f12 (x1 : List (BitVec 16)) : Option (List (BitVec 16)) :=
  abc ((x1).length = 0) (
  some []
  ) (
  chk ((0 + (x1).length) * 2 ≤ 140737488355328) <|
  some ([] ++ x1)
  )
set_option maxRecDepth 100000 in
theorem f12_ok  (x1 : List (BitVec 16)) (r : List (BitVec 16)) (h : f12 x1 = some r)  : Spec1 Tryd.prog 12 [] [] [] [vL 1 eW 0#16 x1] (.own 3000) [(3000, bL 28 1 eW 0#16 r)] := by
  unfold f12 at h
  refine Spec1.body 0 _ _ Tryd.func12 rfl Tryd.ntmps12 rfl rfl ?_
  refine AWp.seq ?_
  refine AWp.regC [] [] [0] [] ⟨8, [(0, vL 1 eW 0#16 x1)], [], [], 0⟩ (True) Tryd_mixed (by kernel_rfl) trivial ?_
  refine thenQ_normal ?_
  refine AWp.seq ?_
  refine AWp.seq ?_
  refine AWp.regC [] [] [0, 4] [] ⟨8, [(0, vL 1 eW 0#16 x1), (4, .abool (fun b => b = true → (x1).length = 0))], [], [], 0⟩ (True) Tryd_mixed (by kernel_rfl) trivial ?_
  refine thenQ_normal ?_
  obtain ⟨hA1, hB1⟩ := abc_some h
  refine AWp.condAb (fun b => b = true → (x1).length = 0) (by kernel_rfl) (fun hc1 => ?_) (fun hc1 => ?_)
  ·
    have h := hA1 (hc1 rfl)
    refine AWp.seq ?_
    refine AWp.regC [] [] [2] [] ⟨8, [(2, .nils)], [], [], 0⟩ (True) Tryd_mixed (by kernel_rfl) trivial ?_
    refine thenQ_normal ?_
    refine AWp.le (Le.trans (Le.nilOwn (s := ⟨8, [(2, .nils)], [], [], 0⟩) 2 3000 28 1 (encF eW 0#16 []) rfl rfl (Nat.le_of_ble_eq_true rfl)) (Le.mk (s' := ⟨8, [(2, .own 3000)], [(3000, bL 28 1 eW 0#16 [])], [], 0⟩) rfl rfl ⟨.refl _, trivial⟩ ⟨⟨_, rfl, .refl _⟩, trivial⟩)) ?_
    have hret := Option.some.inj h
    subst hret
    refine AWp.le (Le.mk (s := ⟨8, [(2, .own 3000)], [(3000, bL 28 1 eW 0#16 [])], [], 0⟩) (s' := ⟨8, [(2, .own 3000)], [(3000, bL 28 1 eW 0#16 [])], [], 0⟩) rfl rfl ⟨.refl _, trivial⟩ ⟨⟨_, rfl, .refl _⟩, trivial⟩) ?_
    refine AWp.ret ?_
    refine thenQ_ret ?_
    exact bodyQ_ret _ rfl ⟨rfl, rfl⟩ rfl
  ·
    have h := hB1
    refine AWp.skip ?_
    refine thenQ_normal ?_
    refine AWp.seq ?_
    obtain ⟨ob0, h⟩ := chk_some h
    refine AWp.regC [] [] [2] [5] ⟨8, [(2, .own 5)], [(5, .rows 28 1 (0 + (x1).length) (appF 0 (lstF 1 []) (encF eW 0#16 x1)))], [], 0⟩ (((0 + (x1).length) * 2 ≤ 140737488355328) ∧ True) Tryd_mixed (by kernel_rfl) ⟨ob0, trivial⟩ ?_
    refine thenQ_normal ?_
    refine AWp.le (Le.mk (s := ⟨8, [(2, .own 5)], [(5, .rows 28 1 (0 + (x1).length) (appF 0 (lstF 1 []) (encF eW 0#16 x1)))], [], 0⟩) (s' := ⟨8, [(2, .own 5)], [(5, bL 28 1 eW 0#16 ([] ++ x1))], [], 0⟩) rfl rfl ⟨.refl _, trivial⟩ ⟨⟨_, rfl, (BLe.of (RL.app (RL.lst (enc := eW) [] rfl rfl (fun _ => rfl)) (RL.self _)))⟩, trivial⟩) ?_
    refine AWp.le (Le.trans (Le.ren (s := ⟨8, [(2, .own 5)], [(5, bL 28 1 eW 0#16 ([] ++ x1))], [], 0⟩) (swapN 5 3000) (swapN_inv 5 3000) rfl) (Le.mk (s' := ⟨8, [(2, .own 3000)], [(3000, bL 28 1 eW 0#16 ([] ++ x1))], [], 0⟩) rfl rfl ⟨.refl _, trivial⟩ ⟨⟨_, rfl, .refl _⟩, trivial⟩)) ?_
    have hret := Option.some.inj h
    subst hret
    refine AWp.le (Le.mk (s := ⟨8, [(2, .own 3000)], [(3000, bL 28 1 eW 0#16 ([] ++ x1))], [], 0⟩) (s' := ⟨8, [(2, .own 3000)], [(3000, bL 28 1 eW 0#16 ([] ++ x1))], [], 0⟩) rfl rfl ⟨.refl _, trivial⟩ ⟨⟨_, rfl, .refl _⟩, trivial⟩) ?_
    refine AWp.ret ?_
    exact bodyQ_ret _ rfl ⟨rfl, rfl⟩ rfl
def f84 (x1 : List (BitVec 16)) : Option (List (BitVec 16)) := sortO key x1
theorem f84_ok (x1 r : List (BitVec 16)) (h : f84 x1 = some r) : Spec1 Tryd.prog 84 [] [2000] [(2000, bL 28 1 eW 0#16 x1)] [.own 2000, .fn (.func 38) []] (.tup []) [(2000, bL 28 1 eW 0#16 r)] := sortS x1 r h
def f85_L1 (x1 : List (BitVec 16)) (n2 : Nat) (K2 : (Nat × List (BitVec 16)) → Option (List (BitVec 16))) : Nat → (Nat × Nat × List (BitVec 16)) → Option (List (BitVec 16))
  | 0, _ => none
  | k + 1, (n3, n4, l5) =>
    if (decide (((n4 : Nat) : Int) < ((((x1).length - n2) : Nat) : Int))) then (
    jn (fun ((n6, l7) : Nat × List (BitVec 16)) =>
    chk ((((n4 : Nat) : Int) + (1 : Int)) ≤ 9223372036854775807) <|
    (f85_L1 x1 n2 K2 k) (n6, (n4 + 1), l7)
    ) fun (K3 : (Nat × List (BitVec 16)) → Option (List (BitVec 16))) =>
    chk (((n4 : Nat) : Int) < ((((x1).length - n2) : Nat) : Int)) <|
    chk ((n2 + n4) < (l5).length) <|
    chk (-9223372036854775808 ≤ (((n4 : Nat) : Int) - (1 : Int)) ∧ (((n4 : Nat) : Int) - (1 : Int)) ≤ 9223372036854775807) <|
    chk (0 ≤ (((n4 : Nat) : Int) - (1 : Int)) ∧ (((n4 : Nat) : Int) - (1 : Int)) < ((((x1).length - n2) : Nat) : Int)) <|
    chk ((n2 + (((((n4 : Nat) : Int) - (1 : Int))).toNat)) < (l5).length) <|
    if (!((l5.getD (n2 + n4) 0#16) == (l5.getD (n2 + (((((n4 : Nat) : Int) - (1 : Int))).toNat)) 0#16))) then (
    chk (((n4 : Nat) : Int) < ((((x1).length - n2) : Nat) : Int)) <|
    chk ((n2 + n4) < (l5).length) <|
    chk (((n3 : Nat) : Int) < (((l5).length : Nat) : Int)) <|
    chk (n3 < (l5).length) <|
    chk ((((n3 : Nat) : Int) + (1 : Int)) ≤ 9223372036854775807) <|
    K3 ((n3 + 1), (l5.set n3 (l5.getD (n2 + n4) 0#16)))
    ) else (
    K3 (n3, l5)
    )
    ) else (
    K2 (n3, l5)
    )
def f85_L0 (x1 : List (BitVec 16)) (K1 : Unit → Option (List (BitVec 16))) : Nat → Nat → Option (List (BitVec 16))
  | 0, _ => none
  | k + 1, n2 =>
    if (decide (((n2 : Nat) : Int) < (((x1).length : Nat) : Int))) then (
    chk (((n2 : Nat) : Int) < (((x1).length : Nat) : Int)) <|
    chk (n2 < (x1).length) <|
    chk (-9223372036854775808 ≤ (((n2 : Nat) : Int) - (1 : Int)) ∧ (((n2 : Nat) : Int) - (1 : Int)) ≤ 9223372036854775807) <|
    chk (0 ≤ (((n2 : Nat) : Int) - (1 : Int)) ∧ (((n2 : Nat) : Int) - (1 : Int)) < (((x1).length : Nat) : Int)) <|
    chk ((((((n2 : Nat) : Int) - (1 : Int))).toNat) < (x1).length) <|
    if ((x1.getD n2 0#16) == (x1.getD (((((n2 : Nat) : Int) - (1 : Int))).toNat) 0#16)) then (
    chk (((n2 : Nat) : Int) ≤ (((x1).length : Nat) : Int)) <|
    jn (fun ((n8, l9) : Nat × List (BitVec 16)) =>
    chk (((n8 : Nat) : Int) ≤ (((l9).length : Nat) : Int)) <|
    chk (n8 + ((l9).length - n8) ≤ (l9).length ∧ 0 < ((l9).length - n8)) <|
    chk (((n8 : Nat) : Int) ≤ ((((l9.take n8 ++ List.replicate ((l9).length - n8) (BitVec.ofInt 16 0))).length : Nat) : Int)) <|
    chk (n8 ≤ (l9.take n8 ++ List.replicate ((l9).length - n8) (BitVec.ofInt 16 0)).length) <|
    some ((l9.take n8 ++ List.replicate ((l9).length - n8) (BitVec.ofInt 16 0)).take n8)
    ) fun (K2 : (Nat × List (BitVec 16)) → Option (List (BitVec 16))) =>
    f85_L1 x1 n2 K2 FUEL (n2, 1, x1)
    ) else (
    chk ((((n2 : Nat) : Int) + (1 : Int)) ≤ 9223372036854775807) <|
    (f85_L0 x1 K1 k) (n2 + 1)
    )
    ) else (
    K1 ()
    )
def f85 (x1 : List (BitVec 16)) : Option (List (BitVec 16)) :=
  if (decide ((((x1).length : Nat) : Int) < (2 : Int))) then (
  some x1
  ) else (
  jn (fun (_ : Unit) =>
  some x1
  ) fun (K1 : Unit → Option (List (BitVec 16))) =>
  f85_L0 x1 K1 FUEL 1
  )
set_option maxRecDepth 100000 in
theorem f85_ok  (x1 : List (BitVec 16)) (r : List (BitVec 16)) (h : f85 x1 = some r)  : Spec1 Tryd.prog 85 [] [] [(2000, bL 28 1 eW 0#16 x1)] [.own 2000] (.own 2000) [(2000, bL 28 1 eW 0#16 r)] := by
  unfold f85 at h
  refine Spec1.body 0 _ _ Tryd.func85 rfl Tryd.ntmps85 rfl rfl ?_
  refine AWp.seq ?_
  refine AWp.regC [] [] [0] [2000] ⟨61, [(0, .own 2000)], [(2000, bL 28 1 eW 0#16 x1)], [], 0⟩ (True) Tryd_mixed (by kernel_rfl) trivial ?_
  refine thenQ_normal ?_
  refine AWp.seq ?_
  refine AWp.seq ?_
  refine AWp.regC [] [] [0, 8] [2000] ⟨61, [(0, .own 2000), (8, .bool (decide ((((x1).length : Nat) : Int) < (2 : Int))))], [(2000, bL 28 1 eW 0#16 x1)], [], 0⟩ (True) Tryd_mixed (by kernel_rfl) trivial ?_
  refine thenQ_normal ?_
  refine AWp.cond (b := (decide ((((x1).length : Nat) : Int) < (2 : Int)))) (by kernel_rfl) (fun hc1 => ?_) (fun hc1 => ?_)
  ·
    replace h := ite_tb hc1 h
    refine AWp.seq ?_
    refine AWp.regC [] [] [2] [2000] ⟨61, [(2, .own 2000)], [(2000, bL 28 1 eW 0#16 x1)], [], 0⟩ (True) Tryd_mixed (by kernel_rfl) trivial ?_
    refine thenQ_normal ?_
    have hret := Option.some.inj h
    subst hret
    refine AWp.le (Le.mk (s := ⟨61, [(2, .own 2000)], [(2000, bL 28 1 eW 0#16 x1)], [], 0⟩) (s' := ⟨61, [(2, .own 2000)], [(2000, bL 28 1 eW 0#16 x1)], [], 0⟩) rfl rfl ⟨.refl _, trivial⟩ ⟨⟨_, rfl, .refl _⟩, trivial⟩) ?_
    refine AWp.ret ?_
    refine thenQ_ret ?_
    exact bodyQ_ret _ rfl ⟨rfl, rfl⟩ rfl
  ·
    replace h := ite_fb hc1 h
    refine AWp.skip ?_
    refine thenQ_normal ?_
    obtain ⟨K1, hK1, h⟩ := jn_some h
    refine AWp.join (α := Unit) (fun (x : Unit) => match x with | () => ⟨61, [(0, .own 2000)], [(2000, bL 28 1 eW 0#16 x1)], [], 0⟩) (fun x => K1 x = some r) ?_ ?_
    ·
      refine AWp.seq ?_
      refine AWp.regC [] [] [0, 3] [2000] ⟨61, [(0, .own 2000), (3, .int .i64 (1 : Int))], [(2000, bL 28 1 eW 0#16 x1)], [], 0⟩ (True) Tryd_mixed (by kernel_rfl) trivial ?_
      refine thenQ_normal ?_
      refine AWp.block ?_
      refine AWp.loopL (α := Nat × Nat) (fun x => match x with | (_, n2) => ⟨61, [(0, .own 2000), (3, .int .i64 ((n2 : Nat) : Int))], [(2000, bL 28 1 eW 0#16 x1)], [], 0⟩) (fun x => f85_L0 x1 K1 x.1 x.2 = some r) (fun x => x.1) (FUEL, 1) (Le.mk (s := ⟨61, [(0, .own 2000), (3, .int .i64 (1 : Int))], [(2000, bL 28 1 eW 0#16 x1)], [], 0⟩) (s' := ⟨61, [(0, .own 2000), (3, .int .i64 (1 : Int))], [(2000, bL 28 1 eW 0#16 x1)], [], 0⟩) rfl rfl ⟨.refl _, .refl _, trivial⟩ ⟨⟨_, rfl, .refl _⟩, trivial⟩) h ?_
      rintro ⟨k0, n2⟩ h
      cases k0 with
      | zero => exact nomatch (show (none : Option (List (BitVec 16))) = some r from h)
      | succ k0 =>
      obtain ⟨C0, hC0⟩ : ∃ C, C = f85_L0 x1 K1 k0 := ⟨_, rfl⟩
      replace h := (f85_L0.eq_2 ..).symm.trans h
      try rw [← hC0] at h
      refine AWp.seq ?_
      refine AWp.seq ?_
      refine AWp.regC [] [] [0, 3, 13] [2000] ⟨61, [(0, .own 2000), (3, .int .i64 ((n2 : Nat) : Int)), (13, .bool (decide (((n2 : Nat) : Int) < (((x1).length : Nat) : Int))))], [(2000, bL 28 1 eW 0#16 x1)], [], 0⟩ (True) Tryd_mixed (by kernel_rfl) trivial ?_
      refine thenQ_normal ?_
      refine AWp.cond (b := (decide (((n2 : Nat) : Int) < (((x1).length : Nat) : Int)))) (by kernel_rfl) (fun hc2 => ?_) (fun hc2 => ?_)
      ·
        replace h := ite_tb hc2 h
        refine AWp.skip ?_
        refine thenQ_normal ?_
        refine AWp.seq ?_
        refine AWp.block ?_
        refine AWp.seq ?_
        obtain ⟨ob0p, h⟩ := chk_some h
        have ob0 : 0 ≤ ((n2 : Nat) : Int) ∧ ((n2 : Nat) : Int) < (((x1).length : Nat) : Int) := ⟨by omega, ob0p⟩
        obtain ⟨ob1, h⟩ := chk_some h
        obtain ⟨ob2, h⟩ := chk_some h
        obtain ⟨ob3, h⟩ := chk_some h
        obtain ⟨ob4, h⟩ := chk_some h
        refine AWp.regC [] [] [0, 3, 25] [2000] ⟨61, [(0, .own 2000), (3, .int .i64 ((n2 : Nat) : Int)), (25, .bool ((x1.getD n2 0#16) == (x1.getD (((((n2 : Nat) : Int) - (1 : Int))).toNat) 0#16)))], [(2000, bL 28 1 eW 0#16 x1)], [], 0⟩ ((0 ≤ ((n2 : Nat) : Int) ∧ ((n2 : Nat) : Int) < (((x1).length : Nat) : Int)) ∧ (n2 < (x1).length) ∧ (-9223372036854775808 ≤ (((n2 : Nat) : Int) - (1 : Int)) ∧ (((n2 : Nat) : Int) - (1 : Int)) ≤ 9223372036854775807) ∧ (0 ≤ (((n2 : Nat) : Int) - (1 : Int)) ∧ (((n2 : Nat) : Int) - (1 : Int)) < (((x1).length : Nat) : Int)) ∧ ((((((n2 : Nat) : Int) - (1 : Int))).toNat) < (x1).length) ∧ True) Tryd_mixed (by kernel_rfl) ⟨ob0, ob1, ob2, ob3, ob4, trivial⟩ ?_
        refine thenQ_normal ?_
        refine AWp.cond (b := ((x1.getD n2 0#16) == (x1.getD (((((n2 : Nat) : Int) - (1 : Int))).toNat) 0#16))) (by kernel_rfl) (fun hc3 => ?_) (fun hc3 => ?_)
        ·
          replace h := ite_tb hc3 h
          refine AWp.seq ?_
          obtain ⟨ob5p, h⟩ := chk_some h
          have ob5 : 0 ≤ ((n2 : Nat) : Int) ∧ ((n2 : Nat) : Int) ≤ (((x1).length : Nat) : Int) := ⟨by omega, ob5p⟩
          refine AWp.regC [] [] [0, 3, 4] [2000] ⟨61, [(0, .own 2000), (3, .int .i64 ((n2 : Nat) : Int)), (4, .osl 2000 1 n2 ((x1).length - n2))], [(2000, bL 28 1 eW 0#16 x1)], [], 0⟩ ((0 ≤ ((n2 : Nat) : Int) ∧ ((n2 : Nat) : Int) ≤ (((x1).length : Nat) : Int)) ∧ True) Tryd_mixed (by kernel_rfl) ⟨ob5, trivial⟩ ?_
          refine thenQ_normal ?_
          obtain ⟨K2, hK2, h⟩ := jn_some h
          refine AWp.join (α := Nat × List (BitVec 16)) (fun (x : Nat × List (BitVec 16)) => match x with | (n8, l9) => ⟨61, [(0, .own 2000), (3, .int .i64 ((n8 : Nat) : Int))], [(2000, bL 28 1 eW 0#16 l9)], [], 0⟩) (fun x => K2 x = some r) ?_ ?_
          ·
            refine AWp.seq ?_
            refine AWp.regC [] [] [0, 3, 4, 5] [2000] ⟨61, [(0, .own 2000), (3, .int .i64 ((n2 : Nat) : Int)), (4, .osl 2000 1 n2 ((x1).length - n2)), (5, .int .i64 (1 : Int))], [(2000, bL 28 1 eW 0#16 x1)], [], 0⟩ (True) Tryd_mixed (by kernel_rfl) trivial ?_
            refine thenQ_normal ?_
            refine AWp.block ?_
            refine AWp.loopL (α := Nat × (Nat × Nat × List (BitVec 16))) (fun x => match x with | (_, n3, n4, l5) => ⟨61, [(0, .own 2000), (3, .int .i64 ((n3 : Nat) : Int)), (4, .osl 2000 1 n2 ((x1).length - n2)), (5, .int .i64 ((n4 : Nat) : Int))], [(2000, bL 28 1 eW 0#16 l5)], [], 0⟩) (fun x => f85_L1 x1 n2 K2 x.1 x.2 = some r) (fun x => x.1) (FUEL, n2, 1, x1) (Le.mk (s := ⟨61, [(0, .own 2000), (3, .int .i64 ((n2 : Nat) : Int)), (4, .osl 2000 1 n2 ((x1).length - n2)), (5, .int .i64 (1 : Int))], [(2000, bL 28 1 eW 0#16 x1)], [], 0⟩) (s' := ⟨61, [(0, .own 2000), (3, .int .i64 ((n2 : Nat) : Int)), (4, .osl 2000 1 n2 ((x1).length - n2)), (5, .int .i64 (1 : Int))], [(2000, bL 28 1 eW 0#16 x1)], [], 0⟩) rfl rfl ⟨.refl _, .refl _, .refl _, .refl _, trivial⟩ ⟨⟨_, rfl, .refl _⟩, trivial⟩) h ?_
            rintro ⟨k1, n3, n4, l5⟩ h
            cases k1 with
            | zero => exact nomatch (show (none : Option (List (BitVec 16))) = some r from h)
            | succ k1 =>
            obtain ⟨C1, hC1⟩ : ∃ C, C = f85_L1 x1 n2 K2 k1 := ⟨_, rfl⟩
            replace h := (f85_L1.eq_2 ..).symm.trans h
            try rw [← hC1] at h
            refine AWp.seq ?_
            refine AWp.seq ?_
            refine AWp.regC [] [] [0, 3, 4, 5, 32] [2000] ⟨61, [(0, .own 2000), (3, .int .i64 ((n3 : Nat) : Int)), (4, .osl 2000 1 n2 ((x1).length - n2)), (5, .int .i64 ((n4 : Nat) : Int)), (32, .bool (decide (((n4 : Nat) : Int) < ((((x1).length - n2) : Nat) : Int))))], [(2000, bL 28 1 eW 0#16 l5)], [], 0⟩ (True) Tryd_mixed (by kernel_rfl) trivial ?_
            refine thenQ_normal ?_
            refine AWp.cond (b := (decide (((n4 : Nat) : Int) < ((((x1).length - n2) : Nat) : Int)))) (by kernel_rfl) (fun hc4 => ?_) (fun hc4 => ?_)
            ·
              replace h := ite_tb hc4 h
              refine AWp.skip ?_
              refine thenQ_normal ?_
              obtain ⟨K3, hK3, h⟩ := jn_some h
              refine AWp.join (α := Nat × List (BitVec 16)) (fun (x : Nat × List (BitVec 16)) => match x with | (n6, l7) => ⟨61, [(0, .own 2000), (3, .int .i64 ((n6 : Nat) : Int)), (4, .osl 2000 1 n2 ((x1).length - n2)), (5, .int .i64 ((n4 : Nat) : Int))], [(2000, bL 28 1 eW 0#16 l7)], [], 0⟩) (fun x => K3 x = some r) ?_ ?_
              ·
                refine AWp.block ?_
                refine AWp.seq ?_
                obtain ⟨ob6p, h⟩ := chk_some h
                have ob6 : 0 ≤ ((n4 : Nat) : Int) ∧ ((n4 : Nat) : Int) < ((((x1).length - n2) : Nat) : Int) := ⟨by omega, ob6p⟩
                obtain ⟨ob7, h⟩ := chk_some h
                obtain ⟨ob8, h⟩ := chk_some h
                obtain ⟨ob9, h⟩ := chk_some h
                obtain ⟨ob10, h⟩ := chk_some h
                refine AWp.regC [] [] [0, 3, 4, 5, 44] [2000] ⟨61, [(0, .own 2000), (3, .int .i64 ((n3 : Nat) : Int)), (4, .osl 2000 1 n2 ((x1).length - n2)), (5, .int .i64 ((n4 : Nat) : Int)), (44, .bool (!((l5.getD (n2 + n4) 0#16) == (l5.getD (n2 + (((((n4 : Nat) : Int) - (1 : Int))).toNat)) 0#16))))], [(2000, bL 28 1 eW 0#16 l5)], [], 0⟩ ((0 ≤ ((n4 : Nat) : Int) ∧ ((n4 : Nat) : Int) < ((((x1).length - n2) : Nat) : Int)) ∧ ((n2 + n4) < (l5).length) ∧ (-9223372036854775808 ≤ (((n4 : Nat) : Int) - (1 : Int)) ∧ (((n4 : Nat) : Int) - (1 : Int)) ≤ 9223372036854775807) ∧ (0 ≤ (((n4 : Nat) : Int) - (1 : Int)) ∧ (((n4 : Nat) : Int) - (1 : Int)) < ((((x1).length - n2) : Nat) : Int)) ∧ ((n2 + (((((n4 : Nat) : Int) - (1 : Int))).toNat)) < (l5).length) ∧ True) Tryd_mixed (by kernel_rfl) ⟨ob6, ob7, ob8, ob9, ob10, trivial⟩ ?_
                refine thenQ_normal ?_
                refine AWp.cond (b := (!((l5.getD (n2 + n4) 0#16) == (l5.getD (n2 + (((((n4 : Nat) : Int) - (1 : Int))).toNat)) 0#16)))) (by kernel_rfl) (fun hc5 => ?_) (fun hc5 => ?_)
                ·
                  replace h := ite_tb hc5 h
                  refine AWp.seq ?_
                  obtain ⟨ob11p, h⟩ := chk_some h
                  have ob11 : 0 ≤ ((n4 : Nat) : Int) ∧ ((n4 : Nat) : Int) < ((((x1).length - n2) : Nat) : Int) := ⟨by omega, ob11p⟩
                  obtain ⟨ob12, h⟩ := chk_some h
                  obtain ⟨ob13p, h⟩ := chk_some h
                  have ob13 : 0 ≤ ((n3 : Nat) : Int) ∧ ((n3 : Nat) : Int) < (((l5).length : Nat) : Int) := ⟨by omega, ob13p⟩
                  obtain ⟨ob14, h⟩ := chk_some h
                  refine AWp.regC [] [] [0, 3, 4, 5] [2000] ⟨61, [(0, .own 2000), (3, .int .i64 ((n3 : Nat) : Int)), (4, .osl 2000 1 n2 ((x1).length - n2)), (5, .int .i64 ((n4 : Nat) : Int))], [(2000, .rows 28 1 (l5).length (updF (encF eW 0#16 l5) n3 0 [.b16 (l5.getD (n2 + n4) 0#16)]))], [], 0⟩ ((0 ≤ ((n4 : Nat) : Int) ∧ ((n4 : Nat) : Int) < ((((x1).length - n2) : Nat) : Int)) ∧ ((n2 + n4) < (l5).length) ∧ (0 ≤ ((n3 : Nat) : Int) ∧ ((n3 : Nat) : Int) < (((l5).length : Nat) : Int)) ∧ (n3 < (l5).length) ∧ True) Tryd_mixed (by kernel_rfl) ⟨ob11, ob12, ob13, ob14, trivial⟩ ?_
                  refine thenQ_normal ?_
                  refine AWp.le (Le.mk (s := ⟨61, [(0, .own 2000), (3, .int .i64 ((n3 : Nat) : Int)), (4, .osl 2000 1 n2 ((x1).length - n2)), (5, .int .i64 ((n4 : Nat) : Int))], [(2000, .rows 28 1 (l5).length (updF (encF eW 0#16 l5) n3 0 [.b16 (l5.getD (n2 + n4) 0#16)]))], [], 0⟩) (s' := ⟨61, [(0, .own 2000), (3, .int .i64 ((n3 : Nat) : Int)), (4, .osl 2000 1 n2 ((x1).length - n2)), (5, .int .i64 ((n4 : Nat) : Int))], [(2000, bL 28 1 eW 0#16 (l5.set n3 (l5.getD (n2 + n4) 0#16)))], [], 0⟩) rfl rfl ⟨.refl _, .refl _, .refl _, .refl _, trivial⟩ ⟨⟨_, rfl, (BLe.of (RL.set (l5.getD (n2 + n4) 0#16) (RL.self _) (by intro j hj; match j, hj with | 0, _ => rfl)))⟩, trivial⟩) ?_
                  obtain ⟨ob15p, h⟩ := chk_some h
                  have ob15 : -9223372036854775808 ≤ (((n3 : Nat) : Int) + (1 : Int)) ∧ (((n3 : Nat) : Int) + (1 : Int)) ≤ 9223372036854775807 := ⟨by omega, ob15p⟩
                  refine AWp.regC [] [] [0, 3, 4, 5] [2000] ⟨61, [(0, .own 2000), (3, .int .i64 (((n3 + 1) : Nat) : Int)), (4, .osl 2000 1 n2 ((x1).length - n2)), (5, .int .i64 ((n4 : Nat) : Int))], [(2000, bL 28 1 eW 0#16 (l5.set n3 (l5.getD (n2 + n4) 0#16)))], [], 0⟩ ((-9223372036854775808 ≤ (((n3 : Nat) : Int) + (1 : Int)) ∧ (((n3 : Nat) : Int) + (1 : Int)) ≤ 9223372036854775807) ∧ True) Tryd_mixed (by kernel_rfl) ⟨ob15, trivial⟩ ?_
                  refine blockQ_normal ?_
                  exact joinQ_normal ((n3 + 1), (l5.set n3 (l5.getD (n2 + n4) 0#16))) (Le.mk (s := ⟨61, [(0, .own 2000), (3, .int .i64 (((n3 + 1) : Nat) : Int)), (4, .osl 2000 1 n2 ((x1).length - n2)), (5, .int .i64 ((n4 : Nat) : Int))], [(2000, bL 28 1 eW 0#16 (l5.set n3 (l5.getD (n2 + n4) 0#16)))], [], 0⟩) (s' := ⟨61, [(0, .own 2000), (3, .int .i64 (((n3 + 1) : Nat) : Int)), (4, .osl 2000 1 n2 ((x1).length - n2)), (5, .int .i64 ((n4 : Nat) : Int))], [(2000, bL 28 1 eW 0#16 (l5.set n3 (l5.getD (n2 + n4) 0#16)))], [], 0⟩) rfl rfl ⟨.refl _, .refl _, .refl _, .refl _, trivial⟩ ⟨⟨_, rfl, .refl _⟩, trivial⟩) h
                ·
                  replace h := ite_fb hc5 h
                  refine AWp.skip ?_
                  refine blockQ_normal ?_
                  exact joinQ_normal (n3, l5) (Le.mk (s := ⟨61, [(0, .own 2000), (3, .int .i64 ((n3 : Nat) : Int)), (4, .osl 2000 1 n2 ((x1).length - n2)), (5, .int .i64 ((n4 : Nat) : Int)), (44, .bool (!((l5.getD (n2 + n4) 0#16) == (l5.getD (n2 + (((((n4 : Nat) : Int) - (1 : Int))).toNat)) 0#16))))], [(2000, bL 28 1 eW 0#16 l5)], [], 0⟩) (s' := ⟨61, [(0, .own 2000), (3, .int .i64 ((n3 : Nat) : Int)), (4, .osl 2000 1 n2 ((x1).length - n2)), (5, .int .i64 ((n4 : Nat) : Int))], [(2000, bL 28 1 eW 0#16 l5)], [], 0⟩) rfl rfl ⟨.refl _, .refl _, .refl _, .refl _, trivial⟩ ⟨⟨_, rfl, .refl _⟩, trivial⟩) h
              ·
                rintro ⟨n6, l7⟩ h
                replace h := (congrFun hK3 _).symm.trans h
                obtain ⟨ob16p, h⟩ := chk_some h
                have ob16 : -9223372036854775808 ≤ (((n4 : Nat) : Int) + (1 : Int)) ∧ (((n4 : Nat) : Int) + (1 : Int)) ≤ 9223372036854775807 := ⟨by omega, ob16p⟩
                refine AWp.regC [] [] [0, 3, 4, 5] [2000] ⟨61, [(0, .own 2000), (3, .int .i64 ((n6 : Nat) : Int)), (4, .osl 2000 1 n2 ((x1).length - n2)), (5, .int .i64 (((n4 + 1) : Nat) : Int))], [(2000, bL 28 1 eW 0#16 l7)], [], 0⟩ ((-9223372036854775808 ≤ (((n4 : Nat) : Int) + (1 : Int)) ∧ (((n4 : Nat) : Int) + (1 : Int)) ≤ 9223372036854775807) ∧ True) Tryd_mixed (by kernel_rfl) ⟨ob16, trivial⟩ ?_
                rw [hC1] at h
                exact loopQ_normal (_, n6, (n4 + 1), l7) (Le.mk (s := ⟨61, [(0, .own 2000), (3, .int .i64 ((n6 : Nat) : Int)), (4, .osl 2000 1 n2 ((x1).length - n2)), (5, .int .i64 (((n4 + 1) : Nat) : Int))], [(2000, bL 28 1 eW 0#16 l7)], [], 0⟩) (s' := ⟨61, [(0, .own 2000), (3, .int .i64 ((n6 : Nat) : Int)), (4, .osl 2000 1 n2 ((x1).length - n2)), (5, .int .i64 (((n4 + 1) : Nat) : Int))], [(2000, bL 28 1 eW 0#16 l7)], [], 0⟩) rfl rfl ⟨.refl _, .refl _, .refl _, .refl _, trivial⟩ ⟨⟨_, rfl, .refl _⟩, trivial⟩) h (Nat.lt_succ_self _)
            ·
              replace h := ite_fb hc4 h
              refine AWp.exit ?_
              refine thenQ_exit ?_
              refine thenQ_exit ?_
              refine blockQ_same ?_
              exact joinQ_normal (n3, l5) (Le.mk (s := ⟨61, [(0, .own 2000), (3, .int .i64 ((n3 : Nat) : Int)), (4, .osl 2000 1 n2 ((x1).length - n2)), (5, .int .i64 ((n4 : Nat) : Int)), (32, .bool (decide (((n4 : Nat) : Int) < ((((x1).length - n2) : Nat) : Int))))], [(2000, bL 28 1 eW 0#16 l5)], [], 0⟩) (s' := ⟨61, [(0, .own 2000), (3, .int .i64 ((n3 : Nat) : Int))], [(2000, bL 28 1 eW 0#16 l5)], [], 0⟩) rfl rfl ⟨.refl _, .refl _, trivial⟩ ⟨⟨_, rfl, .refl _⟩, trivial⟩) h
          ·
            rintro ⟨n8, l9⟩ h
            replace h := (congrFun hK2 _).symm.trans h
            refine AWp.seq ?_
            obtain ⟨ob17p, h⟩ := chk_some h
            have ob17 : 0 ≤ ((n8 : Nat) : Int) ∧ ((n8 : Nat) : Int) ≤ (((l9).length : Nat) : Int) := ⟨by omega, ob17p⟩
            obtain ⟨ob18, h⟩ := chk_some h
            refine AWp.regC [] [] [0, 3] [2000] ⟨61, [(0, .own 2000), (3, .int .i64 ((n8 : Nat) : Int))], [(2000, .rows 28 1 (l9).length (clrF (encF eW 0#16 l9) n8 ((l9).length - n8) [.b16 (BitVec.ofInt 16 0)]))], [], 0⟩ ((0 ≤ ((n8 : Nat) : Int) ∧ ((n8 : Nat) : Int) ≤ (((l9).length : Nat) : Int)) ∧ (n8 + ((l9).length - n8) ≤ (l9).length ∧ 0 < ((l9).length - n8)) ∧ True) Tryd_mixed (by kernel_rfl) ⟨ob17, ob18, trivial⟩ ?_
            refine thenQ_normal ?_
            refine AWp.le (Le.mk (s := ⟨61, [(0, .own 2000), (3, .int .i64 ((n8 : Nat) : Int))], [(2000, .rows 28 1 (l9).length (clrF (encF eW 0#16 l9) n8 ((l9).length - n8) [.b16 (BitVec.ofInt 16 0)]))], [], 0⟩) (s' := ⟨61, [(0, .own 2000), (3, .int .i64 ((n8 : Nat) : Int))], [(2000, bL 28 1 eW 0#16 (l9.take n8 ++ List.replicate ((l9).length - n8) (BitVec.ofInt 16 0)))], [], 0⟩) rfl rfl ⟨.refl _, .refl _, trivial⟩ ⟨⟨_, rfl, (BLe.of (RL.clr (BitVec.ofInt 16 0) (RL.self _) (by first | omega | (simp only [List.length_append, List.length_cons, List.length_nil, List.length_take, List.length_drop] at *; omega) | (simp; done) | (simp_all; done) | (simp_all; omega) | rfl) rfl))⟩, trivial⟩) ?_
            refine AWp.seq ?_
            obtain ⟨ob19p, h⟩ := chk_some h
            have ob19 : 0 ≤ ((n8 : Nat) : Int) ∧ ((n8 : Nat) : Int) ≤ ((((l9.take n8 ++ List.replicate ((l9).length - n8) (BitVec.ofInt 16 0))).length : Nat) : Int) := ⟨by omega, ob19p⟩
            refine AWp.regC [] [] [2] [2000] ⟨61, [(2, .osl 2000 1 0 n8)], [(2000, bL 28 1 eW 0#16 (l9.take n8 ++ List.replicate ((l9).length - n8) (BitVec.ofInt 16 0)))], [], 0⟩ ((0 ≤ ((n8 : Nat) : Int) ∧ ((n8 : Nat) : Int) ≤ ((((l9.take n8 ++ List.replicate ((l9).length - n8) (BitVec.ofInt 16 0))).length : Nat) : Int)) ∧ True) Tryd_mixed (by kernel_rfl) ⟨ob19, trivial⟩ ?_
            refine thenQ_normal ?_
            obtain ⟨hk6, h⟩ := chk_some h
            refine AWp.le (Le.trans (Le.cutOwn (s := ⟨61, [(2, .osl 2000 1 0 n8)], [(2000, bL 28 1 eW 0#16 (l9.take n8 ++ List.replicate ((l9).length - n8) (BitVec.ofInt 16 0)))], [], 0⟩) 2 2000 n8 hk6 rfl rfl rfl) (Le.mk (s' := ⟨61, [(2, .own 2000)], [(2000, bL 28 1 eW 0#16 ((l9.take n8 ++ List.replicate ((l9).length - n8) (BitVec.ofInt 16 0)).take n8))], [], 0⟩) rfl rfl ⟨.refl _, trivial⟩ ⟨⟨_, rfl, (BLe.of (RL.take (RL.self _) hk6))⟩, trivial⟩)) ?_
            have hret := Option.some.inj h
            subst hret
            refine AWp.le (Le.mk (s := ⟨61, [(2, .own 2000)], [(2000, bL 28 1 eW 0#16 ((l9.take n8 ++ List.replicate ((l9).length - n8) (BitVec.ofInt 16 0)).take n8))], [], 0⟩) (s' := ⟨61, [(2, .own 2000)], [(2000, bL 28 1 eW 0#16 ((l9.take n8 ++ List.replicate ((l9).length - n8) (BitVec.ofInt 16 0)).take n8))], [], 0⟩) rfl rfl ⟨.refl _, trivial⟩ ⟨⟨_, rfl, .refl _⟩, trivial⟩) ?_
            refine AWp.ret ?_
            refine blockQ_ret ?_
            refine thenQ_ret ?_
            refine thenQ_ret ?_
            refine blockQ_ret ?_
            refine joinQ_ret ?_
            exact bodyQ_ret _ rfl ⟨rfl, rfl⟩ rfl
        ·
          replace h := ite_fb hc3 h
          refine AWp.skip ?_
          refine blockQ_normal ?_
          refine thenQ_normal ?_
          obtain ⟨ob20p, h⟩ := chk_some h
          have ob20 : -9223372036854775808 ≤ (((n2 : Nat) : Int) + (1 : Int)) ∧ (((n2 : Nat) : Int) + (1 : Int)) ≤ 9223372036854775807 := ⟨by omega, ob20p⟩
          refine AWp.regC [] [] [0, 3] [2000] ⟨61, [(0, .own 2000), (3, .int .i64 (((n2 + 1) : Nat) : Int))], [(2000, bL 28 1 eW 0#16 x1)], [], 0⟩ ((-9223372036854775808 ≤ (((n2 : Nat) : Int) + (1 : Int)) ∧ (((n2 : Nat) : Int) + (1 : Int)) ≤ 9223372036854775807) ∧ True) Tryd_mixed (by kernel_rfl) ⟨ob20, trivial⟩ ?_
          rw [hC0] at h
          exact loopQ_normal (_, (n2 + 1)) (Le.mk (s := ⟨61, [(0, .own 2000), (3, .int .i64 (((n2 + 1) : Nat) : Int))], [(2000, bL 28 1 eW 0#16 x1)], [], 0⟩) (s' := ⟨61, [(0, .own 2000), (3, .int .i64 (((n2 + 1) : Nat) : Int))], [(2000, bL 28 1 eW 0#16 x1)], [], 0⟩) rfl rfl ⟨.refl _, .refl _, trivial⟩ ⟨⟨_, rfl, .refl _⟩, trivial⟩) h (Nat.lt_succ_self _)
      ·
        replace h := ite_fb hc2 h
        refine AWp.exit ?_
        refine thenQ_exit ?_
        refine thenQ_exit ?_
        refine blockQ_same ?_
        exact joinQ_normal () (Le.mk (s := ⟨61, [(0, .own 2000), (3, .int .i64 ((n2 : Nat) : Int)), (13, .bool (decide (((n2 : Nat) : Int) < (((x1).length : Nat) : Int))))], [(2000, bL 28 1 eW 0#16 x1)], [], 0⟩) (s' := ⟨61, [(0, .own 2000)], [(2000, bL 28 1 eW 0#16 x1)], [], 0⟩) rfl rfl ⟨.refl _, trivial⟩ ⟨⟨_, rfl, .refl _⟩, trivial⟩) h
    ·
      rintro ⟨⟩ h
      replace h := (congrFun hK1 _).symm.trans h
      refine AWp.seq ?_
      refine AWp.regC [] [] [2] [2000] ⟨61, [(2, .own 2000)], [(2000, bL 28 1 eW 0#16 x1)], [], 0⟩ (True) Tryd_mixed (by kernel_rfl) trivial ?_
      refine thenQ_normal ?_
      have hret := Option.some.inj h
      subst hret
      refine AWp.le (Le.mk (s := ⟨61, [(2, .own 2000)], [(2000, bL 28 1 eW 0#16 x1)], [], 0⟩) (s' := ⟨61, [(2, .own 2000)], [(2000, bL 28 1 eW 0#16 x1)], [], 0⟩) rfl rfl ⟨.refl _, trivial⟩ ⟨⟨_, rfl, .refl _⟩, trivial⟩) ?_
      refine AWp.ret ?_
      exact bodyQ_ret _ rfl ⟨rfl, rfl⟩ rfl
def f67 (x1 : List (BitVec 16)) : Option (List (BitVec 16)) :=
  (f12 x1).bind fun (r2 : List (BitVec 16)) =>
  (f84 r2).bind fun (r3 : List (BitVec 16)) =>
  (f85 r3).bind fun (r4 : List (BitVec 16)) =>
  some r4
set_option maxRecDepth 100000 in
theorem f67_ok  (x1 : List (BitVec 16)) (r : List (BitVec 16)) (h : f67 x1 = some r)  : Spec1 Tryd.prog 67 [] [] [] [vL 1 eW 0#16 x1] (.own 3000) [(3000, bL 28 1 eW 0#16 r)] := by
  unfold f67 at h
  refine Spec1.body 0 _ _ Tryd.func67 rfl Tryd.ntmps67 rfl rfl ?_
  refine AWp.seq ?_
  refine AWp.regC [] [] [0] [] ⟨10, [(0, vL 1 eW 0#16 x1)], [], [], 0⟩ (True) Tryd_mixed (by kernel_rfl) trivial ?_
  refine thenQ_normal ?_
  refine AWp.seq ?_
  obtain ⟨r2, hr2, h⟩ := bind_ok h
  refine AWp.regC [] [(1, ⟨[vL 1 eW 0#16 x1], [], [], [(6001, bL 28 1 eW 0#16 r2)], .own 6001, [6001], [], []⟩)] [3] [6001] ⟨10, [(3, .own 6001)], [(6001, bL 28 1 eW 0#16 r2)], [], 0⟩ ((callP Tryd.prog true 12 [] [] [] [] [] [vL 1 eW 0#16 x1] [vL 1 eW 0#16 x1] (.own 6001) [(6001, bL 28 1 eW 0#16 r2)]) ∧ True) Tryd_mixed (by kernel_rfl) ⟨⟨fun _ => (Spec1.ren (swapN 3000 6001) (swapN_inv 3000 6001) rfl (f12_ok x1 r2 hr2)), fun _ => ⟨.refl _, trivial⟩, .inl rfl⟩, trivial⟩ ?_
  refine thenQ_normal ?_
  refine AWp.seq ?_
  obtain ⟨r3, hr3, h⟩ := bind_ok h
  refine AWp.regC [] [(1, ⟨[.own 6001, .fn (.func 38) []], [6001], [6001], [(6001, bL 28 1 eW 0#16 r3)], .tup [], [], [], []⟩)] [3] [6001] ⟨10, [(3, .own 6001)], [(6001, bL 28 1 eW 0#16 r3)], [], 0⟩ ((callP Tryd.prog true 84 [] [6001] [(6001, bL 28 1 eW 0#16 r2)] [] [] [.own 6001, .fn (.func 38) []] [.own 6001, .fn (.func 38) []] (.tup []) [(6001, bL 28 1 eW 0#16 r3)]) ∧ True) Tryd_mixed (by kernel_rfl) ⟨⟨fun _ => (Spec1.ren (swapN 2000 6001) (swapN_inv 2000 6001) rfl (f84_ok r2 r3 hr3)), fun _ => ⟨.refl _, .refl _, trivial⟩, .inl rfl⟩, trivial⟩ ?_
  refine thenQ_normal ?_
  refine AWp.seq ?_
  obtain ⟨r4, hr4, h⟩ := bind_ok h
  refine AWp.regC [] [(1, ⟨[.own 6001], [6001], [], [(6001, bL 28 1 eW 0#16 r4)], .own 6001, [6001], [], []⟩)] [2] [6001] ⟨10, [(2, .own 6001)], [(6001, bL 28 1 eW 0#16 r4)], [], 0⟩ ((callP Tryd.prog true 85 [] [] [(6001, bL 28 1 eW 0#16 r3)] [] [] [.own 6001] [.own 6001] (.own 6001) [(6001, bL 28 1 eW 0#16 r4)]) ∧ True) Tryd_mixed (by kernel_rfl) ⟨⟨fun _ => (Spec1.ren (swapN 2000 6001) (swapN_inv 2000 6001) rfl (f85_ok r3 r4 hr4)), fun _ => ⟨.refl _, trivial⟩, .inl rfl⟩, trivial⟩ ?_
  refine thenQ_normal ?_
  refine AWp.le (Le.trans (Le.ren (s := ⟨10, [(2, .own 6001)], [(6001, bL 28 1 eW 0#16 r4)], [], 0⟩) (swapN 6001 3000) (swapN_inv 6001 3000) rfl) (Le.mk (s' := ⟨10, [(2, .own 3000)], [(3000, bL 28 1 eW 0#16 r4)], [], 0⟩) rfl rfl ⟨.refl _, trivial⟩ ⟨⟨_, rfl, .refl _⟩, trivial⟩)) ?_
  have hret := Option.some.inj h
  subst hret
  refine AWp.le (Le.mk (s := ⟨10, [(2, .own 3000)], [(3000, bL 28 1 eW 0#16 r4)], [], 0⟩) (s' := ⟨10, [(2, .own 3000)], [(3000, bL 28 1 eW 0#16 r4)], [], 0⟩) rfl rfl ⟨.refl _, trivial⟩ ⟨⟨_, rfl, .refl _⟩, trivial⟩) ?_
  refine AWp.ret ?_
  exact bodyQ_ret _ rfl ⟨rfl, rfl⟩ rfl
def f43_L0 (K1 : (List (BitVec 16)) → Option (List (BitVec 16))) (r2 : List (BitVec 16)) : Nat → (Nat × List (BitVec 16)) → Option (List (BitVec 16))
  | 0, _ => none
  | k + 1, (n3, l4) =>
    if (decide (((n3 : Nat) : Int) < (((r2).length : Nat) : Int))) then (
    jn (fun (l6 : List (BitVec 16)) =>
    chk ((((n3 : Nat) : Int) + (1 : Int)) ≤ 9223372036854775807) <|
    (f43_L0 K1 r2 k) ((n3 + 1), l6)
    ) fun (K2 : (List (BitVec 16)) → Option (List (BitVec 16))) =>
    chk (((n3 : Nat) : Int) < (((r2).length : Nat) : Int)) <|
    chk (n3 < (r2).length) <|
    (f27 l4 (r2.getD n3 0#16)).bind fun (r5 : Bool) =>
    if (!r5) then (
    chk (((l4).length + 1) * 2 ≤ 140737488355328) <|
    K2 (l4 ++ [(r2.getD n3 0#16)])
    ) else (
    K2 l4
    )
    ) else (
    K1 l4
    )
def f43 (x1 : List (BitVec 16)) : Option (List (BitVec 16)) :=
  jn (fun (l7 : List (BitVec 16)) =>
  some l7
  ) fun (K1 : (List (BitVec 16)) → Option (List (BitVec 16))) =>
  (f67 x1).bind fun (r2 : List (BitVec 16)) =>
  f43_L0 K1 r2 FUEL (0, [])
set_option maxRecDepth 100000 in
theorem f43_ok  (x1 : List (BitVec 16)) (r : List (BitVec 16)) (h : f43 x1 = some r)  : Spec1 Tryd.prog 43 [] [] [] [vL 1 eW 0#16 x1] (.own 3000) [(3000, bL 28 1 eW 0#16 r)] := by
  unfold f43 at h
  refine Spec1.body 0 _ _ Tryd.func43 rfl Tryd.ntmps43 rfl rfl ?_
  refine AWp.seq ?_
  refine AWp.regC [] [] [0] [] ⟨23, [(0, vL 1 eW 0#16 x1)], [], [], 0⟩ (True) Tryd_mixed (by kernel_rfl) trivial ?_
  refine thenQ_normal ?_
  refine AWp.seq ?_
  refine AWp.regC [] [] [0, 3] [] ⟨23, [(0, vL 1 eW 0#16 x1), (3, .nils)], [], [], 0⟩ (True) Tryd_mixed (by kernel_rfl) trivial ?_
  refine thenQ_normal ?_
  obtain ⟨K1, hK1, h⟩ := jn_some h
  refine AWp.join (α := List (BitVec 16)) (fun (l7 : List (BitVec 16)) => ⟨23, [(3, .own 5003)], [(5003, bL 28 1 eW 0#16 l7)], [], 0⟩) (fun x => K1 x = some r) ?_ ?_
  ·
    refine AWp.seq ?_
    obtain ⟨r2, hr2, h⟩ := bind_ok h
    refine AWp.regC [] [(1, ⟨[vL 1 eW 0#16 x1], [], [], [(6001, bL 28 1 eW 0#16 r2)], .own 6001, [6001], [], []⟩)] [3, 7, 8, 9] [6001] ⟨23, [(3, .nils), (7, .own 6001), (8, .int .i64 (((r2).length : Nat) : Int)), (9, .int .i64 (0 : Int))], [(6001, bL 28 1 eW 0#16 r2)], [], 0⟩ ((callP Tryd.prog true 67 [] [] [] [] [] [vL 1 eW 0#16 x1] [vL 1 eW 0#16 x1] (.own 6001) [(6001, bL 28 1 eW 0#16 r2)]) ∧ True) Tryd_mixed (by kernel_rfl) ⟨⟨fun _ => (Spec1.ren (swapN 3000 6001) (swapN_inv 3000 6001) rfl (f67_ok x1 r2 hr2)), fun _ => ⟨.refl _, trivial⟩, .inl rfl⟩, trivial⟩ ?_
    refine thenQ_normal ?_
    refine AWp.block ?_
    refine AWp.loopL (α := Nat × (Nat × List (BitVec 16))) (fun x => match x with | (_, n3, l4) => ⟨23, [(3, .own 5003), (7, .own 6001), (8, .int .i64 (((r2).length : Nat) : Int)), (9, .int .i64 ((n3 : Nat) : Int))], [(5003, bL 28 1 eW 0#16 l4), (6001, bL 28 1 eW 0#16 r2)], [], 0⟩) (fun x => f43_L0 K1 r2 x.1 x.2 = some r) (fun x => x.1) (FUEL, 0, []) (Le.trans (Le.trans (Le.nilOwn (s := ⟨23, [(3, .nils), (7, .own 6001), (8, .int .i64 (((r2).length : Nat) : Int)), (9, .int .i64 (0 : Int))], [(6001, bL 28 1 eW 0#16 r2)], [], 0⟩) 3 5003 28 1 (encF eW 0#16 []) rfl rfl (Nat.le_of_ble_eq_true rfl)) (Le.mk (s' := ⟨23, [(3, .own 5003), (7, .own 6001), (8, .int .i64 (((r2).length : Nat) : Int)), (9, .int .i64 (0 : Int))], [(6001, bL 28 1 eW 0#16 r2), (5003, bL 28 1 eW 0#16 [])], [], 0⟩) rfl rfl ⟨.refl _, .refl _, .refl _, .refl _, trivial⟩ ⟨⟨_, rfl, .refl _⟩, ⟨_, rfl, .refl _⟩, trivial⟩)) (Le.mk (s := ⟨23, [(3, .own 5003), (7, .own 6001), (8, .int .i64 (((r2).length : Nat) : Int)), (9, .int .i64 (0 : Int))], [(6001, bL 28 1 eW 0#16 r2), (5003, bL 28 1 eW 0#16 [])], [], 0⟩) (s' := ⟨23, [(3, .own 5003), (7, .own 6001), (8, .int .i64 (((r2).length : Nat) : Int)), (9, .int .i64 (0 : Int))], [(5003, bL 28 1 eW 0#16 []), (6001, bL 28 1 eW 0#16 r2)], [], 0⟩) rfl rfl ⟨.refl _, .refl _, .refl _, .refl _, trivial⟩ ⟨⟨_, rfl, .refl _⟩, ⟨_, rfl, .refl _⟩, trivial⟩)) h ?_
    rintro ⟨k0, n3, l4⟩ h
    cases k0 with
    | zero => exact nomatch (show (none : Option (List (BitVec 16))) = some r from h)
    | succ k0 =>
    obtain ⟨C0, hC0⟩ : ∃ C, C = f43_L0 K1 r2 k0 := ⟨_, rfl⟩
    replace h := (f43_L0.eq_2 ..).symm.trans h
    try rw [← hC0] at h
    refine AWp.seq ?_
    refine AWp.regC [] [] [3, 7, 8, 9, 10] [5003, 6001] ⟨23, [(3, .own 5003), (7, .own 6001), (8, .int .i64 (((r2).length : Nat) : Int)), (9, .int .i64 ((n3 : Nat) : Int)), (10, .bool (decide (((n3 : Nat) : Int) < (((r2).length : Nat) : Int))))], [(5003, bL 28 1 eW 0#16 l4), (6001, bL 28 1 eW 0#16 r2)], [], 0⟩ (True) Tryd_mixed (by kernel_rfl) trivial ?_
    refine thenQ_normal ?_
    refine AWp.seq ?_
    refine AWp.cond (b := (decide (((n3 : Nat) : Int) < (((r2).length : Nat) : Int)))) (by kernel_rfl) (fun hc1 => ?_) (fun hc1 => ?_)
    ·
      replace h := ite_tb hc1 h
      refine AWp.skip ?_
      refine thenQ_normal ?_
      obtain ⟨K2, hK2, h⟩ := jn_some h
      refine AWp.join (α := List (BitVec 16)) (fun (l6 : List (BitVec 16)) => ⟨23, [(3, .own 20), (7, .own 6001), (8, .int .i64 (((r2).length : Nat) : Int)), (9, .int .i64 ((n3 : Nat) : Int))], [(20, bL 28 1 eW 0#16 l6), (6001, bL 28 1 eW 0#16 r2)], [], 0⟩) (fun x => K2 x = some r) ?_ ?_
      ·
        refine AWp.block ?_
        refine AWp.seq ?_
        obtain ⟨ob0p, h⟩ := chk_some h
        have ob0 : 0 ≤ ((n3 : Nat) : Int) ∧ ((n3 : Nat) : Int) < (((r2).length : Nat) : Int) := ⟨by omega, ob0p⟩
        obtain ⟨ob1, h⟩ := chk_some h
        refine AWp.regC [] [] [3, 5, 7, 8, 9] [5003, 6001] ⟨23, [(3, .own 5003), (5, .b16 (r2.getD n3 0#16)), (7, .own 6001), (8, .int .i64 (((r2).length : Nat) : Int)), (9, .int .i64 ((n3 : Nat) : Int))], [(5003, bL 28 1 eW 0#16 l4), (6001, bL 28 1 eW 0#16 r2)], [], 0⟩ ((0 ≤ ((n3 : Nat) : Int) ∧ ((n3 : Nat) : Int) < (((r2).length : Nat) : Int)) ∧ (n3 < (r2).length) ∧ True) Tryd_mixed (by kernel_rfl) ⟨ob0, ob1, trivial⟩ ?_
        refine thenQ_normal ?_
        refine AWp.seq ?_
        obtain ⟨r5, hr5, h⟩ := bind_ok h
        refine AWp.regC [] [(2, ⟨[vL 1 eW 0#16 l4, .b16 (r2.getD n3 0#16)], [], [], [], .bool r5, [], [5003], []⟩)] [3, 5, 7, 8, 9, 16] [5003, 6001] ⟨23, [(3, .own 5003), (5, .b16 (r2.getD n3 0#16)), (7, .own 6001), (8, .int .i64 (((r2).length : Nat) : Int)), (9, .int .i64 ((n3 : Nat) : Int)), (16, .bool (!r5))], [(5003, bL 28 1 eW 0#16 l4), (6001, bL 28 1 eW 0#16 r2)], [], 0⟩ ((callP Tryd.prog true 27 [] [] [] [(5003, bL 28 1 eW 0#16 l4)] [5003] [.own 5003, .b16 (r2.getD n3 0#16)] [vL 1 eW 0#16 l4, .b16 (r2.getD n3 0#16)] (.bool r5) []) ∧ True) Tryd_mixed (by kernel_rfl) ⟨⟨fun _ => (f27_ok l4 (r2.getD n3 0#16) r5 hr5), fun _ => ⟨.refl _, .refl _, trivial⟩, .inr ⟨rfl, trivial⟩⟩, trivial⟩ ?_
        refine thenQ_normal ?_
        refine AWp.cond (b := (!r5)) (by kernel_rfl) (fun hc2 => ?_) (fun hc2 => ?_)
        ·
          replace h := ite_tb hc2 h
          obtain ⟨ob2, h⟩ := chk_some h
          refine AWp.regC [] [] [3, 7, 8, 9] [5003, 6001] ⟨23, [(3, .own 5003), (7, .own 6001), (8, .int .i64 (((r2).length : Nat) : Int)), (9, .int .i64 ((n3 : Nat) : Int))], [(5003, .rows 28 1 ((l4).length + 1) (appF (l4).length (encF eW 0#16 l4) (lstF 1 [.b16 (r2.getD n3 0#16)]))), (6001, bL 28 1 eW 0#16 r2)], [], 0⟩ ((((l4).length + 1) * 2 ≤ 140737488355328) ∧ True) Tryd_mixed (by kernel_rfl) ⟨ob2, trivial⟩ ?_
          refine blockQ_normal ?_
          exact joinQ_normal ((l4 ++ [(r2.getD n3 0#16)])) (Le.trans (Le.mk (s := ⟨23, [(3, .own 5003), (7, .own 6001), (8, .int .i64 (((r2).length : Nat) : Int)), (9, .int .i64 ((n3 : Nat) : Int))], [(5003, .rows 28 1 ((l4).length + 1) (appF (l4).length (encF eW 0#16 l4) (lstF 1 [.b16 (r2.getD n3 0#16)]))), (6001, bL 28 1 eW 0#16 r2)], [], 0⟩) (s' := ⟨23, [(3, .own 5003), (7, .own 6001), (8, .int .i64 (((r2).length : Nat) : Int)), (9, .int .i64 ((n3 : Nat) : Int))], [(5003, bL 28 1 eW 0#16 (l4 ++ [(r2.getD n3 0#16)])), (6001, bL 28 1 eW 0#16 r2)], [], 0⟩) rfl rfl ⟨.refl _, .refl _, .refl _, .refl _, trivial⟩ ⟨⟨_, rfl, (BLe.of (RL.app (RL.self _) (RL.lst (enc := eW) [(r2.getD n3 0#16)] rfl rfl (fun _ => rfl))))⟩, ⟨_, rfl, .refl _⟩, trivial⟩) (Le.trans (Le.trans (Le.ren (s := ⟨23, [(3, .own 5003), (7, .own 6001), (8, .int .i64 (((r2).length : Nat) : Int)), (9, .int .i64 ((n3 : Nat) : Int))], [(5003, bL 28 1 eW 0#16 (l4 ++ [(r2.getD n3 0#16)])), (6001, bL 28 1 eW 0#16 r2)], [], 0⟩) (swapN 5003 20) (swapN_inv 5003 20) rfl) (Le.mk (s' := ⟨23, [(3, .own 20), (7, .own 6001), (8, .int .i64 (((r2).length : Nat) : Int)), (9, .int .i64 ((n3 : Nat) : Int))], [(20, bL 28 1 eW 0#16 (l4 ++ [(r2.getD n3 0#16)])), (6001, bL 28 1 eW 0#16 r2)], [], 0⟩) rfl rfl ⟨.refl _, .refl _, .refl _, .refl _, trivial⟩ ⟨⟨_, rfl, .refl _⟩, ⟨_, rfl, .refl _⟩, trivial⟩)) (Le.mk (s := ⟨23, [(3, .own 20), (7, .own 6001), (8, .int .i64 (((r2).length : Nat) : Int)), (9, .int .i64 ((n3 : Nat) : Int))], [(20, bL 28 1 eW 0#16 (l4 ++ [(r2.getD n3 0#16)])), (6001, bL 28 1 eW 0#16 r2)], [], 0⟩) (s' := ⟨23, [(3, .own 20), (7, .own 6001), (8, .int .i64 (((r2).length : Nat) : Int)), (9, .int .i64 ((n3 : Nat) : Int))], [(20, bL 28 1 eW 0#16 (l4 ++ [(r2.getD n3 0#16)])), (6001, bL 28 1 eW 0#16 r2)], [], 0⟩) rfl rfl ⟨.refl _, .refl _, .refl _, .refl _, trivial⟩ ⟨⟨_, rfl, .refl _⟩, ⟨_, rfl, .refl _⟩, trivial⟩))) h
        ·
          replace h := ite_fb hc2 h
          refine AWp.skip ?_
          refine blockQ_normal ?_
          exact joinQ_normal (l4) (Le.trans (Le.trans (Le.ren (s := ⟨23, [(3, .own 5003), (5, .b16 (r2.getD n3 0#16)), (7, .own 6001), (8, .int .i64 (((r2).length : Nat) : Int)), (9, .int .i64 ((n3 : Nat) : Int)), (16, .bool (!r5))], [(5003, bL 28 1 eW 0#16 l4), (6001, bL 28 1 eW 0#16 r2)], [], 0⟩) (swapN 5003 20) (swapN_inv 5003 20) rfl) (Le.mk (s' := ⟨23, [(3, .own 20), (5, .b16 (r2.getD n3 0#16)), (7, .own 6001), (8, .int .i64 (((r2).length : Nat) : Int)), (9, .int .i64 ((n3 : Nat) : Int)), (16, .bool (!r5))], [(20, bL 28 1 eW 0#16 l4), (6001, bL 28 1 eW 0#16 r2)], [], 0⟩) rfl rfl ⟨.refl _, .refl _, .refl _, .refl _, .refl _, .refl _, trivial⟩ ⟨⟨_, rfl, .refl _⟩, ⟨_, rfl, .refl _⟩, trivial⟩)) (Le.mk (s := ⟨23, [(3, .own 20), (5, .b16 (r2.getD n3 0#16)), (7, .own 6001), (8, .int .i64 (((r2).length : Nat) : Int)), (9, .int .i64 ((n3 : Nat) : Int)), (16, .bool (!r5))], [(20, bL 28 1 eW 0#16 l4), (6001, bL 28 1 eW 0#16 r2)], [], 0⟩) (s' := ⟨23, [(3, .own 20), (7, .own 6001), (8, .int .i64 (((r2).length : Nat) : Int)), (9, .int .i64 ((n3 : Nat) : Int))], [(20, bL 28 1 eW 0#16 l4), (6001, bL 28 1 eW 0#16 r2)], [], 0⟩) rfl rfl ⟨.refl _, .refl _, .refl _, .refl _, trivial⟩ ⟨⟨_, rfl, .refl _⟩, ⟨_, rfl, .refl _⟩, trivial⟩)) h
      ·
        rintro l6 h
        replace h := (congrFun hK2 _).symm.trans h
        obtain ⟨ob3p, h⟩ := chk_some h
        have ob3 : -9223372036854775808 ≤ (((n3 : Nat) : Int) + (1 : Int)) ∧ (((n3 : Nat) : Int) + (1 : Int)) ≤ 9223372036854775807 := ⟨by omega, ob3p⟩
        refine AWp.regC [] [] [3, 7, 8, 9] [20, 6001] ⟨23, [(3, .own 20), (7, .own 6001), (8, .int .i64 (((r2).length : Nat) : Int)), (9, .int .i64 (((n3 + 1) : Nat) : Int))], [(20, bL 28 1 eW 0#16 l6), (6001, bL 28 1 eW 0#16 r2)], [], 0⟩ ((-9223372036854775808 ≤ (((n3 : Nat) : Int) + (1 : Int)) ∧ (((n3 : Nat) : Int) + (1 : Int)) ≤ 9223372036854775807) ∧ True) Tryd_mixed (by kernel_rfl) ⟨ob3, trivial⟩ ?_
        rw [hC0] at h
        exact loopQ_normal (_, (n3 + 1), l6) (Le.trans (Le.trans (Le.ren (s := ⟨23, [(3, .own 20), (7, .own 6001), (8, .int .i64 (((r2).length : Nat) : Int)), (9, .int .i64 (((n3 + 1) : Nat) : Int))], [(20, bL 28 1 eW 0#16 l6), (6001, bL 28 1 eW 0#16 r2)], [], 0⟩) (swapN 20 5003) (swapN_inv 20 5003) rfl) (Le.mk (s' := ⟨23, [(3, .own 5003), (7, .own 6001), (8, .int .i64 (((r2).length : Nat) : Int)), (9, .int .i64 (((n3 + 1) : Nat) : Int))], [(5003, bL 28 1 eW 0#16 l6), (6001, bL 28 1 eW 0#16 r2)], [], 0⟩) rfl rfl ⟨.refl _, .refl _, .refl _, .refl _, trivial⟩ ⟨⟨_, rfl, .refl _⟩, ⟨_, rfl, .refl _⟩, trivial⟩)) (Le.mk (s := ⟨23, [(3, .own 5003), (7, .own 6001), (8, .int .i64 (((r2).length : Nat) : Int)), (9, .int .i64 (((n3 + 1) : Nat) : Int))], [(5003, bL 28 1 eW 0#16 l6), (6001, bL 28 1 eW 0#16 r2)], [], 0⟩) (s' := ⟨23, [(3, .own 5003), (7, .own 6001), (8, .int .i64 (((r2).length : Nat) : Int)), (9, .int .i64 (((n3 + 1) : Nat) : Int))], [(5003, bL 28 1 eW 0#16 l6), (6001, bL 28 1 eW 0#16 r2)], [], 0⟩) rfl rfl ⟨.refl _, .refl _, .refl _, .refl _, trivial⟩ ⟨⟨_, rfl, .refl _⟩, ⟨_, rfl, .refl _⟩, trivial⟩)) h (Nat.lt_succ_self _)
    ·
      replace h := ite_fb hc1 h
      refine AWp.exit ?_
      refine thenQ_exit ?_
      refine thenQ_exit ?_
      refine blockQ_same ?_
      exact joinQ_normal (l4) (Le.mk (s := ⟨23, [(3, .own 5003), (7, .own 6001), (8, .int .i64 (((r2).length : Nat) : Int)), (9, .int .i64 ((n3 : Nat) : Int)), (10, .bool (decide (((n3 : Nat) : Int) < (((r2).length : Nat) : Int))))], [(5003, bL 28 1 eW 0#16 l4), (6001, bL 28 1 eW 0#16 r2)], [], 0⟩) (s' := ⟨23, [(3, .own 5003)], [(5003, bL 28 1 eW 0#16 l4)], [], 0⟩) rfl rfl ⟨.refl _, trivial⟩ ⟨⟨_, rfl, .refl _⟩, trivial⟩) h
  ·
    rintro l7 h
    replace h := (congrFun hK1 _).symm.trans h
    refine AWp.seq ?_
    refine AWp.regC [] [] [2] [5003] ⟨23, [(2, .own 5003)], [(5003, bL 28 1 eW 0#16 l7)], [], 0⟩ (True) Tryd_mixed (by kernel_rfl) trivial ?_
    refine thenQ_normal ?_
    refine AWp.le (Le.trans (Le.ren (s := ⟨23, [(2, .own 5003)], [(5003, bL 28 1 eW 0#16 l7)], [], 0⟩) (swapN 5003 3000) (swapN_inv 5003 3000) rfl) (Le.mk (s' := ⟨23, [(2, .own 3000)], [(3000, bL 28 1 eW 0#16 l7)], [], 0⟩) rfl rfl ⟨.refl _, trivial⟩ ⟨⟨_, rfl, .refl _⟩, trivial⟩)) ?_
    have hret := Option.some.inj h
    subst hret
    refine AWp.le (Le.mk (s := ⟨23, [(2, .own 3000)], [(3000, bL 28 1 eW 0#16 l7)], [], 0⟩) (s' := ⟨23, [(2, .own 3000)], [(3000, bL 28 1 eW 0#16 l7)], [], 0⟩) rfl rfl ⟨.refl _, trivial⟩ ⟨⟨_, rfl, .refl _⟩, trivial⟩) ?_
    refine AWp.ret ?_
    exact bodyQ_ret _ rfl ⟨rfl, rfl⟩ rfl
def f49 (x1 : List (BitVec 16)) : Option (List (BitVec 16) × Int) :=
  if (decide ((((x1).length : Nat) : Int) > (400 : Int))) then (
  some ([], (3 : Int))
  ) else (
  some (x1, (0 : Int))
  )
set_option maxRecDepth 100000 in
theorem f49_ok  (x1 : List (BitVec 16)) (r : List (BitVec 16) × Int) (h : f49 x1 = some r)  : Spec1 Tryd.prog 49 [] [] [] [vL 1 eW 0#16 x1] (.tup [vL 1 eW 0#16 r.1, .int .i64 r.2]) [] := by
  unfold f49 at h
  refine Spec1.body 0 _ _ Tryd.func49 rfl Tryd.ntmps49 rfl rfl ?_
  refine AWp.seq ?_
  refine AWp.regC [] [] [0] [] ⟨8, [(0, vL 1 eW 0#16 x1)], [], [], 0⟩ (True) Tryd_mixed (by kernel_rfl) trivial ?_
  refine thenQ_normal ?_
  refine AWp.seq ?_
  refine AWp.seq ?_
  refine AWp.regC [] [] [0, 6] [] ⟨8, [(0, vL 1 eW 0#16 x1), (6, .bool (decide ((((x1).length : Nat) : Int) > (400 : Int))))], [], [], 0⟩ (True) Tryd_mixed (by kernel_rfl) trivial ?_
  refine thenQ_normal ?_
  refine AWp.cond (b := (decide ((((x1).length : Nat) : Int) > (400 : Int)))) (by kernel_rfl) (fun hc1 => ?_) (fun hc1 => ?_)
  ·
    replace h := ite_tb hc1 h
    refine AWp.seq ?_
    refine AWp.regC [] [] [2, 3] [] ⟨8, [(2, .nils), (3, .int .i64 (3 : Int))], [], [], 0⟩ (True) Tryd_mixed (by kernel_rfl) trivial ?_
    refine thenQ_normal ?_
    have hret := Option.some.inj h
    subst hret
    refine AWp.le (Le.mk (s := ⟨8, [(2, .nils), (3, .int .i64 (3 : Int))], [], [], 0⟩) (s' := ⟨8, [(2, vL 1 eW 0#16 []), (3, .int .i64 (3 : Int))], [], [], 0⟩) rfl rfl ⟨.nilL, .refl _, trivial⟩ trivial) ?_
    refine AWp.ret ?_
    refine thenQ_ret ?_
    exact bodyQ_ret _ rfl ⟨rfl, rfl⟩ rfl
  ·
    replace h := ite_fb hc1 h
    refine AWp.skip ?_
    refine thenQ_normal ?_
    refine AWp.seq ?_
    refine AWp.regC [] [] [2, 3] [] ⟨8, [(2, vL 1 eW 0#16 x1), (3, .int .i64 (0 : Int))], [], [], 0⟩ (True) Tryd_mixed (by kernel_rfl) trivial ?_
    refine thenQ_normal ?_
    have hret := Option.some.inj h
    subst hret
    refine AWp.le (Le.mk (s := ⟨8, [(2, vL 1 eW 0#16 x1), (3, .int .i64 (0 : Int))], [], [], 0⟩) (s' := ⟨8, [(2, vL 1 eW 0#16 x1), (3, .int .i64 (0 : Int))], [], [], 0⟩) rfl rfl ⟨.refl _, .refl _, trivial⟩ trivial) ?_
    refine AWp.ret ?_
    exact bodyQ_ret _ rfl ⟨rfl, rfl⟩ rfl
def f21_L1 (x1 : List (BitVec 16)) (x2 : List (BitVec 16)) (n4 : Nat) (K2 : (List Bool) → Option (List (BitVec 16) × Int)) : Nat → (Nat × List Bool) → Option (List (BitVec 16) × Int)
  | 0, _ => none
  | k + 1, (n6, l7) =>
    if (decide (((n6 : Nat) : Int) < (((x2).length : Nat) : Int))) then (
    chk (((n6 : Nat) : Int) < (((x2).length : Nat) : Int)) <|
    chk (((((x1.getD n4 0#16) ||| (x2.getD n6 0#16)).toNat : Nat) : Int) < (((l7).length : Nat) : Int)) <|
    chk ((((x1.getD n4 0#16) ||| (x2.getD n6 0#16)).toNat) < (l7).length) <|
    chk ((((n6 : Nat) : Int) + (1 : Int)) ≤ 9223372036854775807) <|
    (f21_L1 x1 x2 n4 K2 k) ((n6 + 1), (l7.set (((x1.getD n4 0#16) ||| (x2.getD n6 0#16)).toNat) true))
    ) else (
    K2 l7
    )
def f21_L0 (x1 : List (BitVec 16)) (x2 : List (BitVec 16)) (K1 : (List Bool) → Option (List (BitVec 16) × Int)) : Nat → (Nat × List Bool) → Option (List (BitVec 16) × Int)
  | 0, _ => none
  | k + 1, (n4, l5) =>
    if (decide (((n4 : Nat) : Int) < (((x1).length : Nat) : Int))) then (
    jn (fun (l8 : List Bool) =>
    chk ((((n4 : Nat) : Int) + (1 : Int)) ≤ 9223372036854775807) <|
    (f21_L0 x1 x2 K1 k) ((n4 + 1), l8)
    ) fun (K2 : (List Bool) → Option (List (BitVec 16) × Int)) =>
    chk (((n4 : Nat) : Int) < (((x1).length : Nat) : Int)) <|
    f21_L1 x1 x2 n4 K2 FUEL (0, l5)
    ) else (
    K1 l5
    )
def f21_L2 (l9 : List Bool) (K3 : (List (BitVec 16)) → Option (List (BitVec 16) × Int)) : Nat → (Nat × List (BitVec 16)) → Option (List (BitVec 16) × Int)
  | 0, _ => none
  | k + 1, (n10, l11) =>
    if (decide (((n10 : Nat) : Int) < (((l9).length : Nat) : Int))) then (
    jn (fun (l12 : List (BitVec 16)) =>
    chk ((((n10 : Nat) : Int) + (1 : Int)) ≤ 9223372036854775807) <|
    (f21_L2 l9 K3 k) ((n10 + 1), l12)
    ) fun (K4 : (List (BitVec 16)) → Option (List (BitVec 16) × Int)) =>
    chk (((n10 : Nat) : Int) < (((l9).length : Nat) : Int)) <|
    chk (n10 < (l9).length) <|
    if (l9.getD n10 false) then (
    chk (((l11).length + 1) * 2 ≤ 140737488355328) <|
    K4 (l11 ++ [(BitVec.ofInt 16 ((n10 : Nat) : Int))])
    ) else (
    K4 l11
    )
    ) else (
    K3 l11
    )
def f21 (x1 : List (BitVec 16)) (x2 : List (BitVec 16)) : Option (List (BitVec 16) × Int) :=
  (f48 x1 x2).bind fun (r3 : Int) =>
  if (r3 != (0 : Int)) then (
  some ([], r3)
  ) else (
  jn (fun (l9 : List Bool) =>
  jn (fun (l13 : List (BitVec 16)) =>
  (f43 l13).bind fun (r14 : List (BitVec 16)) =>
  (f49 r14).bind fun (r15 : List (BitVec 16) × Int) =>
  some (r15.1, r15.2)
  ) fun (K3 : (List (BitVec 16)) → Option (List (BitVec 16) × Int)) =>
  f21_L2 l9 K3 FUEL (0, [])
  ) fun (K1 : (List Bool) → Option (List (BitVec 16) × Int)) =>
  f21_L0 x1 x2 K1 FUEL (0, (List.replicate 4096 false))
  )
set_option maxRecDepth 100000 in
theorem f21_ok  (x1 : List (BitVec 16)) (x2 : List (BitVec 16)) (r : List (BitVec 16) × Int) (h : f21 x1 x2 = some r)  : Spec1 Tryd.prog 21 [] [] [] [vL 1 eW 0#16 x1, vL 1 eW 0#16 x2] (.tup [vL 1 eW 0#16 r.1, .int .i64 r.2]) [] := by
  unfold f21 at h
  refine Spec1.body 0 _ _ Tryd.func21 rfl Tryd.ntmps21 rfl rfl ?_
  refine AWp.seq ?_
  refine AWp.regC [] [] [0, 1] [] ⟨60, [(0, vL 1 eW 0#16 x1), (1, vL 1 eW 0#16 x2)], [], [], 0⟩ (True) Tryd_mixed (by kernel_rfl) trivial ?_
  refine thenQ_normal ?_
  refine AWp.seq ?_
  refine AWp.seq ?_
  obtain ⟨r3, hr3, h⟩ := bind_ok h
  refine AWp.regC [] [(2, ⟨[vL 1 eW 0#16 x1, vL 1 eW 0#16 x2], [], [], [], .int .i64 r3, [], [], []⟩)] [0, 1, 6] [] ⟨60, [(0, vL 1 eW 0#16 x1), (1, vL 1 eW 0#16 x2), (6, .int .i64 r3)], [], [], 0⟩ ((callP Tryd.prog true 48 [] [] [] [] [] [vL 1 eW 0#16 x1, vL 1 eW 0#16 x2] [vL 1 eW 0#16 x1, vL 1 eW 0#16 x2] (.int .i64 r3) []) ∧ True) Tryd_mixed (by kernel_rfl) ⟨⟨fun _ => (f48_ok x1 x2 r3 hr3), fun _ => ⟨.refl _, .refl _, trivial⟩, .inl rfl⟩, trivial⟩ ?_
  refine thenQ_normal ?_
  refine AWp.seq ?_
  refine AWp.regC [] [] [0, 1, 6, 19] [] ⟨60, [(0, vL 1 eW 0#16 x1), (1, vL 1 eW 0#16 x2), (6, .int .i64 r3), (19, .bool (r3 != (0 : Int)))], [], [], 0⟩ (True) Tryd_mixed (by kernel_rfl) trivial ?_
  refine thenQ_normal ?_
  refine AWp.cond (b := (r3 != (0 : Int))) (by kernel_rfl) (fun hc1 => ?_) (fun hc1 => ?_)
  ·
    replace h := ite_tb hc1 h
    refine AWp.seq ?_
    refine AWp.regC [] [] [4, 5] [] ⟨60, [(4, .nils), (5, .int .i64 r3)], [], [], 0⟩ (True) Tryd_mixed (by kernel_rfl) trivial ?_
    refine thenQ_normal ?_
    have hret := Option.some.inj h
    subst hret
    refine AWp.le (Le.mk (s := ⟨60, [(4, .nils), (5, .int .i64 r3)], [], [], 0⟩) (s' := ⟨60, [(4, vL 1 eW 0#16 []), (5, .int .i64 r3)], [], [], 0⟩) rfl rfl ⟨.nilL, .refl _, trivial⟩ trivial) ?_
    refine AWp.ret ?_
    refine thenQ_ret ?_
    exact bodyQ_ret _ rfl ⟨rfl, rfl⟩ rfl
  ·
    replace h := ite_fb hc1 h
    refine AWp.skip ?_
    refine thenQ_normal ?_
    refine AWp.seq ?_
    have ob0 : 0 ≤ (4096 : Int) ∧ (4096 : Int) ≤ (4096 : Int) ∧ (1 : Int) * (4096 : Int) ≤ 281474976710656 ∧ (4096 : Int) ≤ 9223372036854775807 := by first | decide | omega | simp | (intro h; cases h)
    refine AWp.regC [] [] [0, 1, 7] [21] ⟨60, [(0, vL 1 eW 0#16 x1), (1, vL 1 eW 0#16 x2), (7, .own 21)], [(21, .rows 4 1 4096 (repF [.bool false]))], [], 0⟩ ((0 ≤ (4096 : Int) ∧ (4096 : Int) ≤ (4096 : Int) ∧ (1 : Int) * (4096 : Int) ≤ 281474976710656 ∧ (4096 : Int) ≤ 9223372036854775807) ∧ True) Tryd_mixed (by kernel_rfl) ⟨ob0, trivial⟩ ?_
    refine thenQ_normal ?_
    refine AWp.le (Le.mk (s := ⟨60, [(0, vL 1 eW 0#16 x1), (1, vL 1 eW 0#16 x2), (7, .own 21)], [(21, .rows 4 1 4096 (repF [.bool false]))], [], 0⟩) (s' := ⟨60, [(0, vL 1 eW 0#16 x1), (1, vL 1 eW 0#16 x2), (7, .own 21)], [(21, bL 4 1 eB false (List.replicate 4096 false))], [], 0⟩) rfl rfl ⟨.refl _, .refl _, .refl _, trivial⟩ ⟨⟨_, rfl, (BLe.of (RL.rep false rfl))⟩, trivial⟩) ?_
    obtain ⟨K1, hK1, h⟩ := jn_some h
    refine AWp.join (α := List Bool) (fun (l9 : List Bool) => ⟨60, [(7, .own 21)], [(21, bL 4 1 eB false l9)], [], 0⟩) (fun x => K1 x = some r) ?_ ?_
    ·
      refine AWp.seq ?_
      refine AWp.regC [] [] [1, 7, 22, 23, 24] [21] ⟨60, [(1, vL 1 eW 0#16 x2), (7, .own 21), (22, vL 1 eW 0#16 x1), (23, .int .i64 (((x1).length : Nat) : Int)), (24, .int .i64 (0 : Int))], [(21, bL 4 1 eB false (List.replicate 4096 false))], [], 0⟩ (True) Tryd_mixed (by kernel_rfl) trivial ?_
      refine thenQ_normal ?_
      refine AWp.block ?_
      refine AWp.loopL (α := Nat × (Nat × List Bool)) (fun x => match x with | (_, n4, l5) => ⟨60, [(1, vL 1 eW 0#16 x2), (7, .own 21), (22, vL 1 eW 0#16 x1), (23, .int .i64 (((x1).length : Nat) : Int)), (24, .int .i64 ((n4 : Nat) : Int))], [(21, bL 4 1 eB false l5)], [], 0⟩) (fun x => f21_L0 x1 x2 K1 x.1 x.2 = some r) (fun x => x.1) (FUEL, 0, (List.replicate 4096 false)) (Le.mk (s := ⟨60, [(1, vL 1 eW 0#16 x2), (7, .own 21), (22, vL 1 eW 0#16 x1), (23, .int .i64 (((x1).length : Nat) : Int)), (24, .int .i64 (0 : Int))], [(21, bL 4 1 eB false (List.replicate 4096 false))], [], 0⟩) (s' := ⟨60, [(1, vL 1 eW 0#16 x2), (7, .own 21), (22, vL 1 eW 0#16 x1), (23, .int .i64 (((x1).length : Nat) : Int)), (24, .int .i64 (0 : Int))], [(21, bL 4 1 eB false (List.replicate 4096 false))], [], 0⟩) rfl rfl ⟨.refl _, .refl _, .refl _, .refl _, .refl _, trivial⟩ ⟨⟨_, rfl, .refl _⟩, trivial⟩) h ?_
      rintro ⟨k0, n4, l5⟩ h
      cases k0 with
      | zero => exact nomatch (show (none : Option (List (BitVec 16) × Int)) = some r from h)
      | succ k0 =>
      obtain ⟨C0, hC0⟩ : ∃ C, C = f21_L0 x1 x2 K1 k0 := ⟨_, rfl⟩
      replace h := (f21_L0.eq_2 ..).symm.trans h
      try rw [← hC0] at h
      refine AWp.seq ?_
      refine AWp.regC [] [] [1, 7, 22, 23, 24, 25] [21] ⟨60, [(1, vL 1 eW 0#16 x2), (7, .own 21), (22, vL 1 eW 0#16 x1), (23, .int .i64 (((x1).length : Nat) : Int)), (24, .int .i64 ((n4 : Nat) : Int)), (25, .bool (decide (((n4 : Nat) : Int) < (((x1).length : Nat) : Int))))], [(21, bL 4 1 eB false l5)], [], 0⟩ (True) Tryd_mixed (by kernel_rfl) trivial ?_
      refine thenQ_normal ?_
      refine AWp.seq ?_
      refine AWp.cond (b := (decide (((n4 : Nat) : Int) < (((x1).length : Nat) : Int)))) (by kernel_rfl) (fun hc2 => ?_) (fun hc2 => ?_)
      ·
        replace h := ite_tb hc2 h
        refine AWp.skip ?_
        refine thenQ_normal ?_
        obtain ⟨K2, hK2, h⟩ := jn_some h
        refine AWp.join (α := List Bool) (fun (l8 : List Bool) => ⟨60, [(1, vL 1 eW 0#16 x2), (7, .own 21), (22, vL 1 eW 0#16 x1), (23, .int .i64 (((x1).length : Nat) : Int)), (24, .int .i64 ((n4 : Nat) : Int))], [(21, bL 4 1 eB false l8)], [], 0⟩) (fun x => K2 x = some r) ?_ ?_
        ·
          refine AWp.block ?_
          refine AWp.seq ?_
          obtain ⟨ob1p, h⟩ := chk_some h
          have ob1 : 0 ≤ ((n4 : Nat) : Int) ∧ ((n4 : Nat) : Int) < (((x1).length : Nat) : Int) := ⟨by omega, ob1p⟩
          refine AWp.regC [] [] [1, 7, 9, 22, 23, 24] [21] ⟨60, [(1, vL 1 eW 0#16 x2), (7, .own 21), (9, .b16 (x1.getD n4 0#16)), (22, vL 1 eW 0#16 x1), (23, .int .i64 (((x1).length : Nat) : Int)), (24, .int .i64 ((n4 : Nat) : Int))], [(21, bL 4 1 eB false l5)], [], 0⟩ ((0 ≤ ((n4 : Nat) : Int) ∧ ((n4 : Nat) : Int) < (((x1).length : Nat) : Int)) ∧ True) Tryd_mixed (by kernel_rfl) ⟨ob1, trivial⟩ ?_
          refine thenQ_normal ?_
          refine AWp.seq ?_
          refine AWp.regC [] [] [1, 7, 9, 22, 23, 24, 28, 29, 30] [21] ⟨60, [(1, vL 1 eW 0#16 x2), (7, .own 21), (9, .b16 (x1.getD n4 0#16)), (22, vL 1 eW 0#16 x1), (23, .int .i64 (((x1).length : Nat) : Int)), (24, .int .i64 ((n4 : Nat) : Int)), (28, vL 1 eW 0#16 x2), (29, .int .i64 (((x2).length : Nat) : Int)), (30, .int .i64 (0 : Int))], [(21, bL 4 1 eB false l5)], [], 0⟩ (True) Tryd_mixed (by kernel_rfl) trivial ?_
          refine thenQ_normal ?_
          refine AWp.block ?_
          refine AWp.loopL (α := Nat × (Nat × List Bool)) (fun x => match x with | (_, n6, l7) => ⟨60, [(1, vL 1 eW 0#16 x2), (7, .own 21), (9, .b16 (x1.getD n4 0#16)), (22, vL 1 eW 0#16 x1), (23, .int .i64 (((x1).length : Nat) : Int)), (24, .int .i64 ((n4 : Nat) : Int)), (28, vL 1 eW 0#16 x2), (29, .int .i64 (((x2).length : Nat) : Int)), (30, .int .i64 ((n6 : Nat) : Int))], [(21, bL 4 1 eB false l7)], [], 0⟩) (fun x => f21_L1 x1 x2 n4 K2 x.1 x.2 = some r) (fun x => x.1) (FUEL, 0, l5) (Le.mk (s := ⟨60, [(1, vL 1 eW 0#16 x2), (7, .own 21), (9, .b16 (x1.getD n4 0#16)), (22, vL 1 eW 0#16 x1), (23, .int .i64 (((x1).length : Nat) : Int)), (24, .int .i64 ((n4 : Nat) : Int)), (28, vL 1 eW 0#16 x2), (29, .int .i64 (((x2).length : Nat) : Int)), (30, .int .i64 (0 : Int))], [(21, bL 4 1 eB false l5)], [], 0⟩) (s' := ⟨60, [(1, vL 1 eW 0#16 x2), (7, .own 21), (9, .b16 (x1.getD n4 0#16)), (22, vL 1 eW 0#16 x1), (23, .int .i64 (((x1).length : Nat) : Int)), (24, .int .i64 ((n4 : Nat) : Int)), (28, vL 1 eW 0#16 x2), (29, .int .i64 (((x2).length : Nat) : Int)), (30, .int .i64 (0 : Int))], [(21, bL 4 1 eB false l5)], [], 0⟩) rfl rfl ⟨.refl _, .refl _, .refl _, .refl _, .refl _, .refl _, .refl _, .refl _, .refl _, trivial⟩ ⟨⟨_, rfl, .refl _⟩, trivial⟩) h ?_
          rintro ⟨k1, n6, l7⟩ h
          cases k1 with
          | zero => exact nomatch (show (none : Option (List (BitVec 16) × Int)) = some r from h)
          | succ k1 =>
          obtain ⟨C1, hC1⟩ : ∃ C, C = f21_L1 x1 x2 n4 K2 k1 := ⟨_, rfl⟩
          replace h := (f21_L1.eq_2 ..).symm.trans h
          try rw [← hC1] at h
          refine AWp.seq ?_
          refine AWp.regC [] [] [1, 7, 9, 22, 23, 24, 28, 29, 30, 31] [21] ⟨60, [(1, vL 1 eW 0#16 x2), (7, .own 21), (9, .b16 (x1.getD n4 0#16)), (22, vL 1 eW 0#16 x1), (23, .int .i64 (((x1).length : Nat) : Int)), (24, .int .i64 ((n4 : Nat) : Int)), (28, vL 1 eW 0#16 x2), (29, .int .i64 (((x2).length : Nat) : Int)), (30, .int .i64 ((n6 : Nat) : Int)), (31, .bool (decide (((n6 : Nat) : Int) < (((x2).length : Nat) : Int))))], [(21, bL 4 1 eB false l7)], [], 0⟩ (True) Tryd_mixed (by kernel_rfl) trivial ?_
          refine thenQ_normal ?_
          refine AWp.seq ?_
          refine AWp.cond (b := (decide (((n6 : Nat) : Int) < (((x2).length : Nat) : Int)))) (by kernel_rfl) (fun hc3 => ?_) (fun hc3 => ?_)
          ·
            replace h := ite_tb hc3 h
            refine AWp.skip ?_
            refine thenQ_normal ?_
            refine AWp.seq ?_
            refine AWp.block ?_
            refine AWp.seq ?_
            obtain ⟨ob2p, h⟩ := chk_some h
            have ob2 : 0 ≤ ((n6 : Nat) : Int) ∧ ((n6 : Nat) : Int) < (((x2).length : Nat) : Int) := ⟨by omega, ob2p⟩
            refine AWp.regC [] [] [1, 7, 9, 11, 22, 23, 24, 28, 29, 30] [21] ⟨60, [(1, vL 1 eW 0#16 x2), (7, .own 21), (9, .b16 (x1.getD n4 0#16)), (11, .b16 (x2.getD n6 0#16)), (22, vL 1 eW 0#16 x1), (23, .int .i64 (((x1).length : Nat) : Int)), (24, .int .i64 ((n4 : Nat) : Int)), (28, vL 1 eW 0#16 x2), (29, .int .i64 (((x2).length : Nat) : Int)), (30, .int .i64 ((n6 : Nat) : Int))], [(21, bL 4 1 eB false l7)], [], 0⟩ ((0 ≤ ((n6 : Nat) : Int) ∧ ((n6 : Nat) : Int) < (((x2).length : Nat) : Int)) ∧ True) Tryd_mixed (by kernel_rfl) ⟨ob2, trivial⟩ ?_
            refine thenQ_normal ?_
            obtain ⟨ob3p, h⟩ := chk_some h
            have ob3 : 0 ≤ ((((x1.getD n4 0#16) ||| (x2.getD n6 0#16)).toNat : Nat) : Int) ∧ ((((x1.getD n4 0#16) ||| (x2.getD n6 0#16)).toNat : Nat) : Int) < (((l7).length : Nat) : Int) := ⟨by omega, ob3p⟩
            obtain ⟨ob4, h⟩ := chk_some h
            refine AWp.regC [] [] [1, 7, 9, 22, 23, 24, 28, 29, 30] [21] ⟨60, [(1, vL 1 eW 0#16 x2), (7, .own 21), (9, .b16 (x1.getD n4 0#16)), (22, vL 1 eW 0#16 x1), (23, .int .i64 (((x1).length : Nat) : Int)), (24, .int .i64 ((n4 : Nat) : Int)), (28, vL 1 eW 0#16 x2), (29, .int .i64 (((x2).length : Nat) : Int)), (30, .int .i64 ((n6 : Nat) : Int))], [(21, .rows 4 1 (l7).length (updF (encF eB false l7) (((x1.getD n4 0#16) ||| (x2.getD n6 0#16)).toNat) 0 [.bool true]))], [], 0⟩ ((0 ≤ ((((x1.getD n4 0#16) ||| (x2.getD n6 0#16)).toNat : Nat) : Int) ∧ ((((x1.getD n4 0#16) ||| (x2.getD n6 0#16)).toNat : Nat) : Int) < (((l7).length : Nat) : Int)) ∧ ((((x1.getD n4 0#16) ||| (x2.getD n6 0#16)).toNat) < (l7).length) ∧ True) Tryd_mixed (by kernel_rfl) ⟨ob3, ob4, trivial⟩ ?_
            refine blockQ_normal ?_
            refine thenQ_normal ?_
            refine AWp.le (Le.mk (s := ⟨60, [(1, vL 1 eW 0#16 x2), (7, .own 21), (9, .b16 (x1.getD n4 0#16)), (22, vL 1 eW 0#16 x1), (23, .int .i64 (((x1).length : Nat) : Int)), (24, .int .i64 ((n4 : Nat) : Int)), (28, vL 1 eW 0#16 x2), (29, .int .i64 (((x2).length : Nat) : Int)), (30, .int .i64 ((n6 : Nat) : Int))], [(21, .rows 4 1 (l7).length (updF (encF eB false l7) (((x1.getD n4 0#16) ||| (x2.getD n6 0#16)).toNat) 0 [.bool true]))], [], 0⟩) (s' := ⟨60, [(1, vL 1 eW 0#16 x2), (7, .own 21), (9, .b16 (x1.getD n4 0#16)), (22, vL 1 eW 0#16 x1), (23, .int .i64 (((x1).length : Nat) : Int)), (24, .int .i64 ((n4 : Nat) : Int)), (28, vL 1 eW 0#16 x2), (29, .int .i64 (((x2).length : Nat) : Int)), (30, .int .i64 ((n6 : Nat) : Int))], [(21, bL 4 1 eB false (l7.set (((x1.getD n4 0#16) ||| (x2.getD n6 0#16)).toNat) true))], [], 0⟩) rfl rfl ⟨.refl _, .refl _, .refl _, .refl _, .refl _, .refl _, .refl _, .refl _, .refl _, trivial⟩ ⟨⟨_, rfl, (BLe.of (RL.set true (RL.self _) (by intro j hj; match j, hj with | 0, _ => rfl)))⟩, trivial⟩) ?_
            obtain ⟨ob5p, h⟩ := chk_some h
            have ob5 : -9223372036854775808 ≤ (((n6 : Nat) : Int) + (1 : Int)) ∧ (((n6 : Nat) : Int) + (1 : Int)) ≤ 9223372036854775807 := ⟨by omega, ob5p⟩
            refine AWp.regC [] [] [1, 7, 9, 22, 23, 24, 28, 29, 30] [21] ⟨60, [(1, vL 1 eW 0#16 x2), (7, .own 21), (9, .b16 (x1.getD n4 0#16)), (22, vL 1 eW 0#16 x1), (23, .int .i64 (((x1).length : Nat) : Int)), (24, .int .i64 ((n4 : Nat) : Int)), (28, vL 1 eW 0#16 x2), (29, .int .i64 (((x2).length : Nat) : Int)), (30, .int .i64 (((n6 + 1) : Nat) : Int))], [(21, bL 4 1 eB false (l7.set (((x1.getD n4 0#16) ||| (x2.getD n6 0#16)).toNat) true))], [], 0⟩ ((-9223372036854775808 ≤ (((n6 : Nat) : Int) + (1 : Int)) ∧ (((n6 : Nat) : Int) + (1 : Int)) ≤ 9223372036854775807) ∧ True) Tryd_mixed (by kernel_rfl) ⟨ob5, trivial⟩ ?_
            rw [hC1] at h
            exact loopQ_normal (_, (n6 + 1), (l7.set (((x1.getD n4 0#16) ||| (x2.getD n6 0#16)).toNat) true)) (Le.mk (s := ⟨60, [(1, vL 1 eW 0#16 x2), (7, .own 21), (9, .b16 (x1.getD n4 0#16)), (22, vL 1 eW 0#16 x1), (23, .int .i64 (((x1).length : Nat) : Int)), (24, .int .i64 ((n4 : Nat) : Int)), (28, vL 1 eW 0#16 x2), (29, .int .i64 (((x2).length : Nat) : Int)), (30, .int .i64 (((n6 + 1) : Nat) : Int))], [(21, bL 4 1 eB false (l7.set (((x1.getD n4 0#16) ||| (x2.getD n6 0#16)).toNat) true))], [], 0⟩) (s' := ⟨60, [(1, vL 1 eW 0#16 x2), (7, .own 21), (9, .b16 (x1.getD n4 0#16)), (22, vL 1 eW 0#16 x1), (23, .int .i64 (((x1).length : Nat) : Int)), (24, .int .i64 ((n4 : Nat) : Int)), (28, vL 1 eW 0#16 x2), (29, .int .i64 (((x2).length : Nat) : Int)), (30, .int .i64 (((n6 + 1) : Nat) : Int))], [(21, bL 4 1 eB false (l7.set (((x1.getD n4 0#16) ||| (x2.getD n6 0#16)).toNat) true))], [], 0⟩) rfl rfl ⟨.refl _, .refl _, .refl _, .refl _, .refl _, .refl _, .refl _, .refl _, .refl _, trivial⟩ ⟨⟨_, rfl, .refl _⟩, trivial⟩) h (Nat.lt_succ_self _)
          ·
            replace h := ite_fb hc3 h
            refine AWp.exit ?_
            refine thenQ_exit ?_
            refine thenQ_exit ?_
            refine blockQ_same ?_
            refine blockQ_normal ?_
            exact joinQ_normal (l7) (Le.mk (s := ⟨60, [(1, vL 1 eW 0#16 x2), (7, .own 21), (9, .b16 (x1.getD n4 0#16)), (22, vL 1 eW 0#16 x1), (23, .int .i64 (((x1).length : Nat) : Int)), (24, .int .i64 ((n4 : Nat) : Int)), (28, vL 1 eW 0#16 x2), (29, .int .i64 (((x2).length : Nat) : Int)), (30, .int .i64 ((n6 : Nat) : Int)), (31, .bool (decide (((n6 : Nat) : Int) < (((x2).length : Nat) : Int))))], [(21, bL 4 1 eB false l7)], [], 0⟩) (s' := ⟨60, [(1, vL 1 eW 0#16 x2), (7, .own 21), (22, vL 1 eW 0#16 x1), (23, .int .i64 (((x1).length : Nat) : Int)), (24, .int .i64 ((n4 : Nat) : Int))], [(21, bL 4 1 eB false l7)], [], 0⟩) rfl rfl ⟨.refl _, .refl _, .refl _, .refl _, .refl _, trivial⟩ ⟨⟨_, rfl, .refl _⟩, trivial⟩) h
        ·
          rintro l8 h
          replace h := (congrFun hK2 _).symm.trans h
          obtain ⟨ob6p, h⟩ := chk_some h
          have ob6 : -9223372036854775808 ≤ (((n4 : Nat) : Int) + (1 : Int)) ∧ (((n4 : Nat) : Int) + (1 : Int)) ≤ 9223372036854775807 := ⟨by omega, ob6p⟩
          refine AWp.regC [] [] [1, 7, 22, 23, 24] [21] ⟨60, [(1, vL 1 eW 0#16 x2), (7, .own 21), (22, vL 1 eW 0#16 x1), (23, .int .i64 (((x1).length : Nat) : Int)), (24, .int .i64 (((n4 + 1) : Nat) : Int))], [(21, bL 4 1 eB false l8)], [], 0⟩ ((-9223372036854775808 ≤ (((n4 : Nat) : Int) + (1 : Int)) ∧ (((n4 : Nat) : Int) + (1 : Int)) ≤ 9223372036854775807) ∧ True) Tryd_mixed (by kernel_rfl) ⟨ob6, trivial⟩ ?_
          rw [hC0] at h
          exact loopQ_normal (_, (n4 + 1), l8) (Le.mk (s := ⟨60, [(1, vL 1 eW 0#16 x2), (7, .own 21), (22, vL 1 eW 0#16 x1), (23, .int .i64 (((x1).length : Nat) : Int)), (24, .int .i64 (((n4 + 1) : Nat) : Int))], [(21, bL 4 1 eB false l8)], [], 0⟩) (s' := ⟨60, [(1, vL 1 eW 0#16 x2), (7, .own 21), (22, vL 1 eW 0#16 x1), (23, .int .i64 (((x1).length : Nat) : Int)), (24, .int .i64 (((n4 + 1) : Nat) : Int))], [(21, bL 4 1 eB false l8)], [], 0⟩) rfl rfl ⟨.refl _, .refl _, .refl _, .refl _, .refl _, trivial⟩ ⟨⟨_, rfl, .refl _⟩, trivial⟩) h (Nat.lt_succ_self _)
      ·
        replace h := ite_fb hc2 h
        refine AWp.exit ?_
        refine thenQ_exit ?_
        refine thenQ_exit ?_
        refine blockQ_same ?_
        exact joinQ_normal (l5) (Le.mk (s := ⟨60, [(1, vL 1 eW 0#16 x2), (7, .own 21), (22, vL 1 eW 0#16 x1), (23, .int .i64 (((x1).length : Nat) : Int)), (24, .int .i64 ((n4 : Nat) : Int)), (25, .bool (decide (((n4 : Nat) : Int) < (((x1).length : Nat) : Int))))], [(21, bL 4 1 eB false l5)], [], 0⟩) (s' := ⟨60, [(7, .own 21)], [(21, bL 4 1 eB false l5)], [], 0⟩) rfl rfl ⟨.refl _, trivial⟩ ⟨⟨_, rfl, .refl _⟩, trivial⟩) h
    ·
      rintro l9 h
      replace h := (congrFun hK1 _).symm.trans h
      refine AWp.seq ?_
      refine AWp.regC [] [] [7, 12] [21] ⟨60, [(7, .own 21), (12, .nils)], [(21, bL 4 1 eB false l9)], [], 0⟩ (True) Tryd_mixed (by kernel_rfl) trivial ?_
      refine thenQ_normal ?_
      obtain ⟨K3, hK3, h⟩ := jn_some h
      refine AWp.join (α := List (BitVec 16)) (fun (l13 : List (BitVec 16)) => ⟨60, [(12, .own 5012)], [(5012, bL 28 1 eW 0#16 l13)], [], 0⟩) (fun x => K3 x = some r) ?_ ?_
      ·
        refine AWp.seq ?_
        refine AWp.regC [] [] [12, 41, 42, 43] [21] ⟨60, [(12, .nils), (41, .own 21), (42, .int .i64 (((l9).length : Nat) : Int)), (43, .int .i64 (0 : Int))], [(21, bL 4 1 eB false l9)], [], 0⟩ (True) Tryd_mixed (by kernel_rfl) trivial ?_
        refine thenQ_normal ?_
        refine AWp.block ?_
        refine AWp.loopL (α := Nat × (Nat × List (BitVec 16))) (fun x => match x with | (_, n10, l11) => ⟨60, [(12, .own 5012), (41, .own 21), (42, .int .i64 (((l9).length : Nat) : Int)), (43, .int .i64 ((n10 : Nat) : Int))], [(21, bL 4 1 eB false l9), (5012, bL 28 1 eW 0#16 l11)], [], 0⟩) (fun x => f21_L2 l9 K3 x.1 x.2 = some r) (fun x => x.1) (FUEL, 0, []) (Le.trans (Le.trans (Le.nilOwn (s := ⟨60, [(12, .nils), (41, .own 21), (42, .int .i64 (((l9).length : Nat) : Int)), (43, .int .i64 (0 : Int))], [(21, bL 4 1 eB false l9)], [], 0⟩) 12 5012 28 1 (encF eW 0#16 []) rfl rfl (Nat.le_of_ble_eq_true rfl)) (Le.mk (s' := ⟨60, [(12, .own 5012), (41, .own 21), (42, .int .i64 (((l9).length : Nat) : Int)), (43, .int .i64 (0 : Int))], [(21, bL 4 1 eB false l9), (5012, bL 28 1 eW 0#16 [])], [], 0⟩) rfl rfl ⟨.refl _, .refl _, .refl _, .refl _, trivial⟩ ⟨⟨_, rfl, .refl _⟩, ⟨_, rfl, .refl _⟩, trivial⟩)) (Le.mk (s := ⟨60, [(12, .own 5012), (41, .own 21), (42, .int .i64 (((l9).length : Nat) : Int)), (43, .int .i64 (0 : Int))], [(21, bL 4 1 eB false l9), (5012, bL 28 1 eW 0#16 [])], [], 0⟩) (s' := ⟨60, [(12, .own 5012), (41, .own 21), (42, .int .i64 (((l9).length : Nat) : Int)), (43, .int .i64 (0 : Int))], [(21, bL 4 1 eB false l9), (5012, bL 28 1 eW 0#16 [])], [], 0⟩) rfl rfl ⟨.refl _, .refl _, .refl _, .refl _, trivial⟩ ⟨⟨_, rfl, .refl _⟩, ⟨_, rfl, .refl _⟩, trivial⟩)) h ?_
        rintro ⟨k2, n10, l11⟩ h
        cases k2 with
        | zero => exact nomatch (show (none : Option (List (BitVec 16) × Int)) = some r from h)
        | succ k2 =>
        obtain ⟨C2, hC2⟩ : ∃ C, C = f21_L2 l9 K3 k2 := ⟨_, rfl⟩
        replace h := (f21_L2.eq_2 ..).symm.trans h
        try rw [← hC2] at h
        refine AWp.seq ?_
        refine AWp.regC [] [] [12, 41, 42, 43, 44] [21, 5012] ⟨60, [(12, .own 5012), (41, .own 21), (42, .int .i64 (((l9).length : Nat) : Int)), (43, .int .i64 ((n10 : Nat) : Int)), (44, .bool (decide (((n10 : Nat) : Int) < (((l9).length : Nat) : Int))))], [(21, bL 4 1 eB false l9), (5012, bL 28 1 eW 0#16 l11)], [], 0⟩ (True) Tryd_mixed (by kernel_rfl) trivial ?_
        refine thenQ_normal ?_
        refine AWp.seq ?_
        refine AWp.cond (b := (decide (((n10 : Nat) : Int) < (((l9).length : Nat) : Int)))) (by kernel_rfl) (fun hc4 => ?_) (fun hc4 => ?_)
        ·
          replace h := ite_tb hc4 h
          refine AWp.skip ?_
          refine thenQ_normal ?_
          obtain ⟨K4, hK4, h⟩ := jn_some h
          refine AWp.join (α := List (BitVec 16)) (fun (l12 : List (BitVec 16)) => ⟨60, [(12, .own 53), (41, .own 21), (42, .int .i64 (((l9).length : Nat) : Int)), (43, .int .i64 ((n10 : Nat) : Int))], [(21, bL 4 1 eB false l9), (53, bL 28 1 eW 0#16 l12)], [], 0⟩) (fun x => K4 x = some r) ?_ ?_
          ·
            refine AWp.block ?_
            refine AWp.seq ?_
            obtain ⟨ob7p, h⟩ := chk_some h
            have ob7 : 0 ≤ ((n10 : Nat) : Int) ∧ ((n10 : Nat) : Int) < (((l9).length : Nat) : Int) := ⟨by omega, ob7p⟩
            obtain ⟨ob8, h⟩ := chk_some h
            refine AWp.regC [] [] [12, 13, 14, 41, 42, 43] [21, 5012] ⟨60, [(12, .own 5012), (13, .int .i64 ((n10 : Nat) : Int)), (14, .bool (l9.getD n10 false)), (41, .own 21), (42, .int .i64 (((l9).length : Nat) : Int)), (43, .int .i64 ((n10 : Nat) : Int))], [(21, bL 4 1 eB false l9), (5012, bL 28 1 eW 0#16 l11)], [], 0⟩ ((0 ≤ ((n10 : Nat) : Int) ∧ ((n10 : Nat) : Int) < (((l9).length : Nat) : Int)) ∧ (n10 < (l9).length) ∧ True) Tryd_mixed (by kernel_rfl) ⟨ob7, ob8, trivial⟩ ?_
            refine thenQ_normal ?_
            refine AWp.seq ?_
            refine AWp.regC [] [] [12, 13, 41, 42, 43, 48] [21, 5012] ⟨60, [(12, .own 5012), (13, .int .i64 ((n10 : Nat) : Int)), (41, .own 21), (42, .int .i64 (((l9).length : Nat) : Int)), (43, .int .i64 ((n10 : Nat) : Int)), (48, .bool (l9.getD n10 false))], [(21, bL 4 1 eB false l9), (5012, bL 28 1 eW 0#16 l11)], [], 0⟩ (True) Tryd_mixed (by kernel_rfl) trivial ?_
            refine thenQ_normal ?_
            refine AWp.cond (b := (l9.getD n10 false)) (by kernel_rfl) (fun hc5 => ?_) (fun hc5 => ?_)
            ·
              replace h := ite_tb hc5 h
              obtain ⟨ob9, h⟩ := chk_some h
              refine AWp.regC [] [] [12, 41, 42, 43] [21, 5012] ⟨60, [(12, .own 5012), (41, .own 21), (42, .int .i64 (((l9).length : Nat) : Int)), (43, .int .i64 ((n10 : Nat) : Int))], [(21, bL 4 1 eB false l9), (5012, .rows 28 1 ((l11).length + 1) (appF (l11).length (encF eW 0#16 l11) (lstF 1 [.b16 (BitVec.ofInt 16 ((n10 : Nat) : Int))])))], [], 0⟩ ((True) ∧ (((l11).length + 1) * 2 ≤ 140737488355328) ∧ True) Tryd_mixed (by kernel_rfl) ⟨trivial, ob9, trivial⟩ ?_
              refine blockQ_normal ?_
              exact joinQ_normal ((l11 ++ [(BitVec.ofInt 16 ((n10 : Nat) : Int))])) (Le.trans (Le.mk (s := ⟨60, [(12, .own 5012), (41, .own 21), (42, .int .i64 (((l9).length : Nat) : Int)), (43, .int .i64 ((n10 : Nat) : Int))], [(21, bL 4 1 eB false l9), (5012, .rows 28 1 ((l11).length + 1) (appF (l11).length (encF eW 0#16 l11) (lstF 1 [.b16 (BitVec.ofInt 16 ((n10 : Nat) : Int))])))], [], 0⟩) (s' := ⟨60, [(12, .own 5012), (41, .own 21), (42, .int .i64 (((l9).length : Nat) : Int)), (43, .int .i64 ((n10 : Nat) : Int))], [(21, bL 4 1 eB false l9), (5012, bL 28 1 eW 0#16 (l11 ++ [(BitVec.ofInt 16 ((n10 : Nat) : Int))]))], [], 0⟩) rfl rfl ⟨.refl _, .refl _, .refl _, .refl _, trivial⟩ ⟨⟨_, rfl, .refl _⟩, ⟨_, rfl, (BLe.of (RL.app (RL.self _) (RL.lst (enc := eW) [(BitVec.ofInt 16 ((n10 : Nat) : Int))] rfl rfl (fun _ => rfl))))⟩, trivial⟩) (Le.trans (Le.trans (Le.ren (s := ⟨60, [(12, .own 5012), (41, .own 21), (42, .int .i64 (((l9).length : Nat) : Int)), (43, .int .i64 ((n10 : Nat) : Int))], [(21, bL 4 1 eB false l9), (5012, bL 28 1 eW 0#16 (l11 ++ [(BitVec.ofInt 16 ((n10 : Nat) : Int))]))], [], 0⟩) (swapN 5012 53) (swapN_inv 5012 53) rfl) (Le.mk (s' := ⟨60, [(12, .own 53), (41, .own 21), (42, .int .i64 (((l9).length : Nat) : Int)), (43, .int .i64 ((n10 : Nat) : Int))], [(21, bL 4 1 eB false l9), (53, bL 28 1 eW 0#16 (l11 ++ [(BitVec.ofInt 16 ((n10 : Nat) : Int))]))], [], 0⟩) rfl rfl ⟨.refl _, .refl _, .refl _, .refl _, trivial⟩ ⟨⟨_, rfl, .refl _⟩, ⟨_, rfl, .refl _⟩, trivial⟩)) (Le.mk (s := ⟨60, [(12, .own 53), (41, .own 21), (42, .int .i64 (((l9).length : Nat) : Int)), (43, .int .i64 ((n10 : Nat) : Int))], [(21, bL 4 1 eB false l9), (53, bL 28 1 eW 0#16 (l11 ++ [(BitVec.ofInt 16 ((n10 : Nat) : Int))]))], [], 0⟩) (s' := ⟨60, [(12, .own 53), (41, .own 21), (42, .int .i64 (((l9).length : Nat) : Int)), (43, .int .i64 ((n10 : Nat) : Int))], [(21, bL 4 1 eB false l9), (53, bL 28 1 eW 0#16 (l11 ++ [(BitVec.ofInt 16 ((n10 : Nat) : Int))]))], [], 0⟩) rfl rfl ⟨.refl _, .refl _, .refl _, .refl _, trivial⟩ ⟨⟨_, rfl, .refl _⟩, ⟨_, rfl, .refl _⟩, trivial⟩))) h
            ·
              replace h := ite_fb hc5 h
              refine AWp.skip ?_
              refine blockQ_normal ?_
              exact joinQ_normal (l11) (Le.trans (Le.trans (Le.ren (s := ⟨60, [(12, .own 5012), (13, .int .i64 ((n10 : Nat) : Int)), (41, .own 21), (42, .int .i64 (((l9).length : Nat) : Int)), (43, .int .i64 ((n10 : Nat) : Int)), (48, .bool (l9.getD n10 false))], [(21, bL 4 1 eB false l9), (5012, bL 28 1 eW 0#16 l11)], [], 0⟩) (swapN 5012 53) (swapN_inv 5012 53) rfl) (Le.mk (s' := ⟨60, [(12, .own 53), (13, .int .i64 ((n10 : Nat) : Int)), (41, .own 21), (42, .int .i64 (((l9).length : Nat) : Int)), (43, .int .i64 ((n10 : Nat) : Int)), (48, .bool (l9.getD n10 false))], [(21, bL 4 1 eB false l9), (53, bL 28 1 eW 0#16 l11)], [], 0⟩) rfl rfl ⟨.refl _, .refl _, .refl _, .refl _, .refl _, .refl _, trivial⟩ ⟨⟨_, rfl, .refl _⟩, ⟨_, rfl, .refl _⟩, trivial⟩)) (Le.mk (s := ⟨60, [(12, .own 53), (13, .int .i64 ((n10 : Nat) : Int)), (41, .own 21), (42, .int .i64 (((l9).length : Nat) : Int)), (43, .int .i64 ((n10 : Nat) : Int)), (48, .bool (l9.getD n10 false))], [(21, bL 4 1 eB false l9), (53, bL 28 1 eW 0#16 l11)], [], 0⟩) (s' := ⟨60, [(12, .own 53), (41, .own 21), (42, .int .i64 (((l9).length : Nat) : Int)), (43, .int .i64 ((n10 : Nat) : Int))], [(21, bL 4 1 eB false l9), (53, bL 28 1 eW 0#16 l11)], [], 0⟩) rfl rfl ⟨.refl _, .refl _, .refl _, .refl _, trivial⟩ ⟨⟨_, rfl, .refl _⟩, ⟨_, rfl, .refl _⟩, trivial⟩)) h
          ·
            rintro l12 h
            replace h := (congrFun hK4 _).symm.trans h
            obtain ⟨ob10p, h⟩ := chk_some h
            have ob10 : -9223372036854775808 ≤ (((n10 : Nat) : Int) + (1 : Int)) ∧ (((n10 : Nat) : Int) + (1 : Int)) ≤ 9223372036854775807 := ⟨by omega, ob10p⟩
            refine AWp.regC [] [] [12, 41, 42, 43] [21, 53] ⟨60, [(12, .own 53), (41, .own 21), (42, .int .i64 (((l9).length : Nat) : Int)), (43, .int .i64 (((n10 + 1) : Nat) : Int))], [(21, bL 4 1 eB false l9), (53, bL 28 1 eW 0#16 l12)], [], 0⟩ ((-9223372036854775808 ≤ (((n10 : Nat) : Int) + (1 : Int)) ∧ (((n10 : Nat) : Int) + (1 : Int)) ≤ 9223372036854775807) ∧ True) Tryd_mixed (by kernel_rfl) ⟨ob10, trivial⟩ ?_
            rw [hC2] at h
            exact loopQ_normal (_, (n10 + 1), l12) (Le.trans (Le.trans (Le.ren (s := ⟨60, [(12, .own 53), (41, .own 21), (42, .int .i64 (((l9).length : Nat) : Int)), (43, .int .i64 (((n10 + 1) : Nat) : Int))], [(21, bL 4 1 eB false l9), (53, bL 28 1 eW 0#16 l12)], [], 0⟩) (swapN 53 5012) (swapN_inv 53 5012) rfl) (Le.mk (s' := ⟨60, [(12, .own 5012), (41, .own 21), (42, .int .i64 (((l9).length : Nat) : Int)), (43, .int .i64 (((n10 + 1) : Nat) : Int))], [(21, bL 4 1 eB false l9), (5012, bL 28 1 eW 0#16 l12)], [], 0⟩) rfl rfl ⟨.refl _, .refl _, .refl _, .refl _, trivial⟩ ⟨⟨_, rfl, .refl _⟩, ⟨_, rfl, .refl _⟩, trivial⟩)) (Le.mk (s := ⟨60, [(12, .own 5012), (41, .own 21), (42, .int .i64 (((l9).length : Nat) : Int)), (43, .int .i64 (((n10 + 1) : Nat) : Int))], [(21, bL 4 1 eB false l9), (5012, bL 28 1 eW 0#16 l12)], [], 0⟩) (s' := ⟨60, [(12, .own 5012), (41, .own 21), (42, .int .i64 (((l9).length : Nat) : Int)), (43, .int .i64 (((n10 + 1) : Nat) : Int))], [(21, bL 4 1 eB false l9), (5012, bL 28 1 eW 0#16 l12)], [], 0⟩) rfl rfl ⟨.refl _, .refl _, .refl _, .refl _, trivial⟩ ⟨⟨_, rfl, .refl _⟩, ⟨_, rfl, .refl _⟩, trivial⟩)) h (Nat.lt_succ_self _)
        ·
          replace h := ite_fb hc4 h
          refine AWp.exit ?_
          refine thenQ_exit ?_
          refine thenQ_exit ?_
          refine blockQ_same ?_
          exact joinQ_normal (l11) (Le.mk (s := ⟨60, [(12, .own 5012), (41, .own 21), (42, .int .i64 (((l9).length : Nat) : Int)), (43, .int .i64 ((n10 : Nat) : Int)), (44, .bool (decide (((n10 : Nat) : Int) < (((l9).length : Nat) : Int))))], [(21, bL 4 1 eB false l9), (5012, bL 28 1 eW 0#16 l11)], [], 0⟩) (s' := ⟨60, [(12, .own 5012)], [(5012, bL 28 1 eW 0#16 l11)], [], 0⟩) rfl rfl ⟨.refl _, trivial⟩ ⟨⟨_, rfl, .refl _⟩, trivial⟩) h
      ·
        rintro l13 h
        replace h := (congrFun hK3 _).symm.trans h
        refine AWp.seq ?_
        obtain ⟨r14, hr14, h⟩ := bind_ok h
        obtain ⟨r15, hr15, h⟩ := bind_ok h
        refine AWp.regC [] [(1, ⟨[vL 1 eW 0#16 l13], [], [], [(6001, bL 28 1 eW 0#16 r14)], .own 6001, [6001], [5012], []⟩), (2, ⟨[.own 6001], [6001], [], [], .tup [vL 1 eW 0#16 r15.1, .int .i64 r15.2], [], [], []⟩)] [4, 5] [] ⟨60, [(4, vL 1 eW 0#16 r15.1), (5, .int .i64 r15.2)], [], [], 0⟩ ((callP Tryd.prog true 43 [] [] [] [(5012, bL 28 1 eW 0#16 l13)] [5012] [.own 5012] [vL 1 eW 0#16 l13] (.own 6001) [(6001, bL 28 1 eW 0#16 r14)]) ∧ (callP Tryd.prog true 49 [] [] [(6001, bL 28 1 eW 0#16 r14)] [] [] [.own 6001] [.own 6001] (.tup [vL 1 eW 0#16 r15.1, .int .i64 r15.2]) []) ∧ True) Tryd_mixed (by kernel_rfl) ⟨⟨fun _ => (Spec1.ren (swapN 3000 6001) (swapN_inv 3000 6001) rfl (f43_ok l13 r14 hr14)), fun _ => ⟨.refl _, trivial⟩, .inr ⟨rfl, ⟨(fun _ _ _ _ => eW_flat _ _), trivial⟩⟩⟩, ⟨fun _ => (Spec1.pre (f49_ok r14 r15 hr15) rfl rfl rfl (Le.trans (Le.freeze (s := ⟨1, [(0, .own 6001)], [(6001, bL 28 1 eW 0#16 r14)], [], 0⟩) 6001 rfl rfl) (Le.mk (s' := ⟨1, [(0, vL 1 eW 0#16 r14)], [], [], 0⟩) rfl rfl ⟨.refl _, trivial⟩ trivial))), fun _ => ⟨.refl _, trivial⟩, .inl rfl⟩, trivial⟩ ?_
        refine thenQ_normal ?_
        have hret := Option.some.inj h
        subst hret
        refine AWp.le (Le.mk (s := ⟨60, [(4, vL 1 eW 0#16 r15.1), (5, .int .i64 r15.2)], [], [], 0⟩) (s' := ⟨60, [(4, vL 1 eW 0#16 r15.1), (5, .int .i64 r15.2)], [], [], 0⟩) rfl rfl ⟨.refl _, .refl _, trivial⟩ trivial) ?_
        refine AWp.ret ?_
        exact bodyQ_ret _ rfl ⟨rfl, rfl⟩ rfl
def f72 (x1 : Int) : Option (List (BitVec 16)) :=
  if (decide (x1 < (0 : Int))) then (
  none
  ) else (
  jn (fun (l2 : List (BitVec 16)) =>
  some l2
  ) fun (K1 : (List (BitVec 16)) → Option (List (BitVec 16))) =>
  chk (-9223372036854775808 ≤ (x1 - (0 : Int)) ∧ (x1 - (0 : Int)) ≤ 9223372036854775807) <|
  if (decide ((x1 - (0 : Int)) > (0 : Int))) then (
  chk (0 < (x1 - (0 : Int)) ∧ (x1 - (0 : Int)) * (2 : Int) ≤ 140737488355328 ∧ (x1 - (0 : Int)) ≤ 4611686018427387904) <|
  chk ((0 : Int) ≤ (((((x1 - (0 : Int))).toNat) : Nat) : Int)) <|
  chk (0 ≤ (List.replicate (((x1 - (0 : Int))).toNat) (BitVec.ofInt 16 0)).length) <|
  K1 ((List.replicate (((x1 - (0 : Int))).toNat) (BitVec.ofInt 16 0)).take 0)
  ) else (
  K1 []
  )
  )
set_option maxRecDepth 100000 in
theorem f72_ok  (x1 : Int) (r : List (BitVec 16)) (h : f72 x1 = some r)  : Spec1 Tryd.prog 72 [] [] [] [.nils, .int .i64 x1] (.own 3000) [(3000, bL 28 1 eW 0#16 r)] := by
  unfold f72 at h
  refine Spec1.body 0 _ _ Tryd.func72 rfl Tryd.ntmps72 rfl rfl ?_
  refine AWp.seq ?_
  refine AWp.regC [] [] [0, 1] [] ⟨27, [(0, .nils), (1, .int .i64 x1)], [], [], 0⟩ (True) Tryd_mixed (by kernel_rfl) trivial ?_
  refine thenQ_normal ?_
  refine AWp.seq ?_
  refine AWp.seq ?_
  refine AWp.regC [] [] [0, 1, 6] [] ⟨27, [(0, .nils), (1, .int .i64 x1), (6, .bool (decide (x1 < (0 : Int))))], [], [], 0⟩ (True) Tryd_mixed (by kernel_rfl) trivial ?_
  refine thenQ_normal ?_
  refine AWp.cond (b := (decide (x1 < (0 : Int)))) (by kernel_rfl) (fun hc1 => ?_) (fun hc1 => ?_)
  ·
    replace h := ite_tb hc1 h
    exact nomatch (show (none : Option (List (BitVec 16))) = some r from h)
  ·
    replace h := ite_fb hc1 h
    refine AWp.skip ?_
    refine thenQ_normal ?_
    obtain ⟨K1, hK1, h⟩ := jn_some h
    refine AWp.join (α := List (BitVec 16)) (fun (l2 : List (BitVec 16)) => ⟨27, [(0, .own 22)], [(22, bL 28 1 eW 0#16 l2)], [], 0⟩) (fun x => K1 x = some r) ?_ ?_
    ·
      refine AWp.seq ?_
      have ob0 : -9223372036854775808 ≤ ((0 : Int) - (0 : Int)) ∧ ((0 : Int) - (0 : Int)) ≤ 9223372036854775807 := by first | decide | omega | simp | (intro h; cases h)
      obtain ⟨ob1, h⟩ := chk_some h
      refine AWp.regC [] [] [0, 1] [] ⟨27, [(0, .nils), (1, .int .i64 (x1 - (0 : Int)))], [], [], 0⟩ ((-9223372036854775808 ≤ ((0 : Int) - (0 : Int)) ∧ ((0 : Int) - (0 : Int)) ≤ 9223372036854775807) ∧ (-9223372036854775808 ≤ (x1 - (0 : Int)) ∧ (x1 - (0 : Int)) ≤ 9223372036854775807) ∧ True) Tryd_mixed (by kernel_rfl) ⟨ob0, ob1, trivial⟩ ?_
      refine thenQ_normal ?_
      refine AWp.seq ?_
      refine AWp.regC [] [] [0, 1, 16] [] ⟨27, [(0, .nils), (1, .int .i64 (x1 - (0 : Int))), (16, .bool (decide ((x1 - (0 : Int)) > (0 : Int))))], [], [], 0⟩ (True) Tryd_mixed (by kernel_rfl) trivial ?_
      refine thenQ_normal ?_
      refine AWp.cond (b := (decide ((x1 - (0 : Int)) > (0 : Int)))) (by kernel_rfl) (fun hc2 => ?_) (fun hc2 => ?_)
      ·
        replace h := ite_tb hc2 h
        have ob2 : 0 ≤ (0 : Int) ∧ (0 : Int) ≤ (0 : Int) := by first | decide | omega | simp | (intro h; cases h)
        obtain ⟨ob3, h⟩ := chk_some h
        obtain ⟨ob4p, h⟩ := chk_some h
        have ob4 : 0 ≤ (0 : Int) ∧ (0 : Int) ≤ (((((x1 - (0 : Int))).toNat) : Nat) : Int) := ⟨by omega, ob4p⟩
        refine AWp.regC [] [] [0] [22] ⟨27, [(0, .osl 22 1 0 0)], [(22, .rows 28 1 (((x1 - (0 : Int))).toNat) (repF [.b16 (BitVec.ofInt 16 0)]))], [], 0⟩ ((0 ≤ (0 : Int) ∧ (0 : Int) ≤ (0 : Int)) ∧ (0 < (x1 - (0 : Int)) ∧ (x1 - (0 : Int)) * (2 : Int) ≤ 140737488355328 ∧ (x1 - (0 : Int)) ≤ 4611686018427387904) ∧ (0 ≤ (0 : Int) ∧ (0 : Int) ≤ (((((x1 - (0 : Int))).toNat) : Nat) : Int)) ∧ True) Tryd_mixed (by kernel_rfl) ⟨ob2, ob3, ob4, trivial⟩ ?_
        obtain ⟨hk3, h⟩ := chk_some h
        exact joinQ_normal (((List.replicate (((x1 - (0 : Int))).toNat) (BitVec.ofInt 16 0)).take 0)) (Le.trans (Le.mk (s := ⟨27, [(0, .osl 22 1 0 0)], [(22, .rows 28 1 (((x1 - (0 : Int))).toNat) (repF [.b16 (BitVec.ofInt 16 0)]))], [], 0⟩) (s' := ⟨27, [(0, .osl 22 1 0 0)], [(22, bL 28 1 eW 0#16 (List.replicate (((x1 - (0 : Int))).toNat) (BitVec.ofInt 16 0)))], [], 0⟩) rfl rfl ⟨.refl _, trivial⟩ ⟨⟨_, rfl, (BLe.of (RL.rep (BitVec.ofInt 16 0) rfl))⟩, trivial⟩) (Le.trans (Le.trans (Le.cutOwn (s := ⟨27, [(0, .osl 22 1 0 0)], [(22, bL 28 1 eW 0#16 (List.replicate (((x1 - (0 : Int))).toNat) (BitVec.ofInt 16 0)))], [], 0⟩) 0 22 0 hk3 rfl rfl rfl) (Le.mk (s' := ⟨27, [(0, .own 22)], [(22, bL 28 1 eW 0#16 ((List.replicate (((x1 - (0 : Int))).toNat) (BitVec.ofInt 16 0)).take 0))], [], 0⟩) rfl rfl ⟨.refl _, trivial⟩ ⟨⟨_, rfl, (BLe.of (RL.take (RL.self _) hk3))⟩, trivial⟩)) (Le.mk (s := ⟨27, [(0, .own 22)], [(22, bL 28 1 eW 0#16 ((List.replicate (((x1 - (0 : Int))).toNat) (BitVec.ofInt 16 0)).take 0))], [], 0⟩) (s' := ⟨27, [(0, .own 22)], [(22, bL 28 1 eW 0#16 ((List.replicate (((x1 - (0 : Int))).toNat) (BitVec.ofInt 16 0)).take 0))], [], 0⟩) rfl rfl ⟨.refl _, trivial⟩ ⟨⟨_, rfl, .refl _⟩, trivial⟩))) h
      ·
        replace h := ite_fb hc2 h
        refine AWp.skip ?_
        exact joinQ_normal ([]) (Le.trans (Le.trans (Le.nilOwn (s := ⟨27, [(0, .nils), (1, .int .i64 (x1 - (0 : Int))), (16, .bool (decide ((x1 - (0 : Int)) > (0 : Int))))], [], [], 0⟩) 0 22 28 1 (encF eW 0#16 []) rfl rfl (Nat.le_of_ble_eq_true rfl)) (Le.mk (s' := ⟨27, [(0, .own 22), (1, .int .i64 (x1 - (0 : Int))), (16, .bool (decide ((x1 - (0 : Int)) > (0 : Int))))], [(22, bL 28 1 eW 0#16 [])], [], 0⟩) rfl rfl ⟨.refl _, .refl _, .refl _, trivial⟩ ⟨⟨_, rfl, .refl _⟩, trivial⟩)) (Le.mk (s := ⟨27, [(0, .own 22), (1, .int .i64 (x1 - (0 : Int))), (16, .bool (decide ((x1 - (0 : Int)) > (0 : Int))))], [(22, bL 28 1 eW 0#16 [])], [], 0⟩) (s' := ⟨27, [(0, .own 22)], [(22, bL 28 1 eW 0#16 [])], [], 0⟩) rfl rfl ⟨.refl _, trivial⟩ ⟨⟨_, rfl, .refl _⟩, trivial⟩)) h
    ·
      rintro l2 h
      replace h := (congrFun hK1 _).symm.trans h
      refine AWp.seq ?_
      refine AWp.regC [] [] [4] [22] ⟨27, [(4, .own 22)], [(22, bL 28 1 eW 0#16 l2)], [], 0⟩ (True) Tryd_mixed (by kernel_rfl) trivial ?_
      refine thenQ_normal ?_
      refine AWp.le (Le.trans (Le.ren (s := ⟨27, [(4, .own 22)], [(22, bL 28 1 eW 0#16 l2)], [], 0⟩) (swapN 22 3000) (swapN_inv 22 3000) rfl) (Le.mk (s' := ⟨27, [(4, .own 3000)], [(3000, bL 28 1 eW 0#16 l2)], [], 0⟩) rfl rfl ⟨.refl _, trivial⟩ ⟨⟨_, rfl, .refl _⟩, trivial⟩)) ?_
      have hret := Option.some.inj h
      subst hret
      refine AWp.le (Le.mk (s := ⟨27, [(4, .own 3000)], [(3000, bL 28 1 eW 0#16 l2)], [], 0⟩) (s' := ⟨27, [(4, .own 3000)], [(3000, bL 28 1 eW 0#16 l2)], [], 0⟩) rfl rfl ⟨.refl _, trivial⟩ ⟨⟨_, rfl, .refl _⟩, trivial⟩) ?_
      refine AWp.ret ?_
      exact bodyQ_ret _ rfl ⟨rfl, rfl⟩ rfl
def f50_L0 (x1 : List (List (BitVec 16))) (K1 : Nat → Option (List (BitVec 16))) : Nat → (Nat × Nat) → Option (List (BitVec 16))
  | 0, _ => none
  | k + 1, (n2, n3) =>
    if (decide (((n3 : Nat) : Int) < (((x1).length : Nat) : Int))) then (
    chk (((n3 : Nat) : Int) < (((x1).length : Nat) : Int)) <|
    chk ((((n2 : Nat) : Int) + ((((x1.getD n3 [])).length : Nat) : Int)) ≤ 9223372036854775807) <|
    if (decide ((((n2 + ((x1.getD n3 [])).length) : Nat) : Int) < (0 : Int))) then (
    none
    ) else (
    chk ((((n3 : Nat) : Int) + (1 : Int)) ≤ 9223372036854775807) <|
    (f50_L0 x1 K1 k) ((n2 + ((x1.getD n3 [])).length), (n3 + 1))
    )
    ) else (
    K1 n2
    )
def f50_L1 (x1 : List (List (BitVec 16))) (K2 : (List (BitVec 16)) → Option (List (BitVec 16))) : Nat → (Nat × List (BitVec 16)) → Option (List (BitVec 16))
  | 0, _ => none
  | k + 1, (n6, l7) =>
    if (decide (((n6 : Nat) : Int) < (((x1).length : Nat) : Int))) then (
    chk (((n6 : Nat) : Int) < (((x1).length : Nat) : Int)) <|
    chk (((l7).length + ((x1.getD n6 [])).length) * 2 ≤ 140737488355328) <|
    chk ((((n6 : Nat) : Int) + (1 : Int)) ≤ 9223372036854775807) <|
    (f50_L1 x1 K2 k) ((n6 + 1), (l7 ++ (x1.getD n6 [])))
    ) else (
    K2 l7
    )
def f50 (x1 : List (List (BitVec 16))) : Option (List (BitVec 16)) :=
  jn (fun (n4 : Nat) =>
  (f72 ((n4 : Nat) : Int)).bind fun (r5 : List (BitVec 16)) =>
  jn (fun (l8 : List (BitVec 16)) =>
  some l8
  ) fun (K2 : (List (BitVec 16)) → Option (List (BitVec 16))) =>
  f50_L1 x1 K2 FUEL (0, r5)
  ) fun (K1 : Nat → Option (List (BitVec 16))) =>
  f50_L0 x1 K1 FUEL (0, 0)
set_option maxRecDepth 100000 in
theorem f50_ok  (x1 : List (List (BitVec 16))) (r : List (BitVec 16)) (h : f50 x1 = some r)  : Spec1 Tryd.prog 50 [] [] [] [vL 1 eLWJ [] x1] (.own 3000) [(3000, bL 28 1 eW 0#16 r)] := by
  unfold f50 at h
  refine Spec1.body 0 _ _ Tryd.func50 rfl Tryd.ntmps50 rfl rfl ?_
  refine AWp.seq ?_
  refine AWp.regC [] [] [0] [] ⟨36, [(0, vL 1 eLWJ [] x1)], [], [], 0⟩ (True) Tryd_mixed (by kernel_rfl) trivial ?_
  refine thenQ_normal ?_
  refine AWp.seq ?_
  refine AWp.regC [] [] [0, 3] [] ⟨36, [(0, vL 1 eLWJ [] x1), (3, .int .i64 (0 : Int))], [], [], 0⟩ (True) Tryd_mixed (by kernel_rfl) trivial ?_
  refine thenQ_normal ?_
  obtain ⟨K1, hK1, h⟩ := jn_some h
  refine AWp.join (α := Nat) (fun (n4 : Nat) => ⟨36, [(0, vL 1 eLWJ [] x1), (3, .int .i64 ((n4 : Nat) : Int))], [], [], 0⟩) (fun x => K1 x = some r) ?_ ?_
  ·
    refine AWp.seq ?_
    refine AWp.regC [] [] [0, 3, 9, 10, 11] [] ⟨36, [(0, vL 1 eLWJ [] x1), (3, .int .i64 (0 : Int)), (9, vL 1 eLWJ [] x1), (10, .int .i64 (((x1).length : Nat) : Int)), (11, .int .i64 (0 : Int))], [], [], 0⟩ (True) Tryd_mixed (by kernel_rfl) trivial ?_
    refine thenQ_normal ?_
    refine AWp.block ?_
    refine AWp.loopL (α := Nat × (Nat × Nat)) (fun x => match x with | (_, n2, n3) => ⟨36, [(0, vL 1 eLWJ [] x1), (3, .int .i64 ((n2 : Nat) : Int)), (9, vL 1 eLWJ [] x1), (10, .int .i64 (((x1).length : Nat) : Int)), (11, .int .i64 ((n3 : Nat) : Int))], [], [], 0⟩) (fun x => f50_L0 x1 K1 x.1 x.2 = some r) (fun x => x.1) (FUEL, 0, 0) (Le.mk (s := ⟨36, [(0, vL 1 eLWJ [] x1), (3, .int .i64 (0 : Int)), (9, vL 1 eLWJ [] x1), (10, .int .i64 (((x1).length : Nat) : Int)), (11, .int .i64 (0 : Int))], [], [], 0⟩) (s' := ⟨36, [(0, vL 1 eLWJ [] x1), (3, .int .i64 (0 : Int)), (9, vL 1 eLWJ [] x1), (10, .int .i64 (((x1).length : Nat) : Int)), (11, .int .i64 (0 : Int))], [], [], 0⟩) rfl rfl ⟨.refl _, .refl _, .refl _, .refl _, .refl _, trivial⟩ trivial) h ?_
    rintro ⟨k0, n2, n3⟩ h
    cases k0 with
    | zero => exact nomatch (show (none : Option (List (BitVec 16))) = some r from h)
    | succ k0 =>
    obtain ⟨C0, hC0⟩ : ∃ C, C = f50_L0 x1 K1 k0 := ⟨_, rfl⟩
    replace h := (f50_L0.eq_2 ..).symm.trans h
    try rw [← hC0] at h
    refine AWp.seq ?_
    refine AWp.regC [] [] [0, 3, 9, 10, 11, 12] [] ⟨36, [(0, vL 1 eLWJ [] x1), (3, .int .i64 ((n2 : Nat) : Int)), (9, vL 1 eLWJ [] x1), (10, .int .i64 (((x1).length : Nat) : Int)), (11, .int .i64 ((n3 : Nat) : Int)), (12, .bool (decide (((n3 : Nat) : Int) < (((x1).length : Nat) : Int))))], [], [], 0⟩ (True) Tryd_mixed (by kernel_rfl) trivial ?_
    refine thenQ_normal ?_
    refine AWp.seq ?_
    refine AWp.cond (b := (decide (((n3 : Nat) : Int) < (((x1).length : Nat) : Int)))) (by kernel_rfl) (fun hc1 => ?_) (fun hc1 => ?_)
    ·
      replace h := ite_tb hc1 h
      refine AWp.skip ?_
      refine thenQ_normal ?_
      refine AWp.seq ?_
      refine AWp.block ?_
      refine AWp.seq ?_
      obtain ⟨ob0p, h⟩ := chk_some h
      have ob0 : 0 ≤ ((n3 : Nat) : Int) ∧ ((n3 : Nat) : Int) < (((x1).length : Nat) : Int) := ⟨by omega, ob0p⟩
      refine AWp.regC [] [] [0, 3, 5, 9, 10, 11] [] ⟨36, [(0, vL 1 eLWJ [] x1), (3, .int .i64 ((n2 : Nat) : Int)), (5, vL 1 eW 0#16 (x1.getD n3 [])), (9, vL 1 eLWJ [] x1), (10, .int .i64 (((x1).length : Nat) : Int)), (11, .int .i64 ((n3 : Nat) : Int))], [], [], 0⟩ ((0 ≤ ((n3 : Nat) : Int) ∧ ((n3 : Nat) : Int) < (((x1).length : Nat) : Int)) ∧ True) Tryd_mixed (by kernel_rfl) ⟨ob0, trivial⟩ ?_
      refine thenQ_normal ?_
      refine AWp.seq ?_
      obtain ⟨ob1p, h⟩ := chk_some h
      have ob1 : -9223372036854775808 ≤ (((n2 : Nat) : Int) + ((((x1.getD n3 [])).length : Nat) : Int)) ∧ (((n2 : Nat) : Int) + ((((x1.getD n3 [])).length : Nat) : Int)) ≤ 9223372036854775807 := ⟨by omega, ob1p⟩
      refine AWp.regC [] [] [0, 3, 9, 10, 11] [] ⟨36, [(0, vL 1 eLWJ [] x1), (3, .int .i64 (((n2 + ((x1.getD n3 [])).length) : Nat) : Int)), (9, vL 1 eLWJ [] x1), (10, .int .i64 (((x1).length : Nat) : Int)), (11, .int .i64 ((n3 : Nat) : Int))], [], [], 0⟩ ((-9223372036854775808 ≤ (((n2 : Nat) : Int) + ((((x1.getD n3 [])).length : Nat) : Int)) ∧ (((n2 : Nat) : Int) + ((((x1.getD n3 [])).length : Nat) : Int)) ≤ 9223372036854775807) ∧ True) Tryd_mixed (by kernel_rfl) ⟨ob1, trivial⟩ ?_
      refine thenQ_normal ?_
      refine AWp.seq ?_
      refine AWp.regC [] [] [0, 3, 9, 10, 11, 20] [] ⟨36, [(0, vL 1 eLWJ [] x1), (3, .int .i64 (((n2 + ((x1.getD n3 [])).length) : Nat) : Int)), (9, vL 1 eLWJ [] x1), (10, .int .i64 (((x1).length : Nat) : Int)), (11, .int .i64 ((n3 : Nat) : Int)), (20, .bool (decide ((((n2 + ((x1.getD n3 [])).length) : Nat) : Int) < (0 : Int))))], [], [], 0⟩ (True) Tryd_mixed (by kernel_rfl) trivial ?_
      refine thenQ_normal ?_
      refine AWp.cond (b := (decide ((((n2 + ((x1.getD n3 [])).length) : Nat) : Int) < (0 : Int)))) (by kernel_rfl) (fun hc2 => ?_) (fun hc2 => ?_)
      ·
        replace h := ite_tb hc2 h
        exact nomatch (show (none : Option (List (BitVec 16))) = some r from h)
      ·
        replace h := ite_fb hc2 h
        refine AWp.skip ?_
        refine blockQ_normal ?_
        refine thenQ_normal ?_
        obtain ⟨ob2p, h⟩ := chk_some h
        have ob2 : -9223372036854775808 ≤ (((n3 : Nat) : Int) + (1 : Int)) ∧ (((n3 : Nat) : Int) + (1 : Int)) ≤ 9223372036854775807 := ⟨by omega, ob2p⟩
        refine AWp.regC [] [] [0, 3, 9, 10, 11] [] ⟨36, [(0, vL 1 eLWJ [] x1), (3, .int .i64 (((n2 + ((x1.getD n3 [])).length) : Nat) : Int)), (9, vL 1 eLWJ [] x1), (10, .int .i64 (((x1).length : Nat) : Int)), (11, .int .i64 (((n3 + 1) : Nat) : Int))], [], [], 0⟩ ((-9223372036854775808 ≤ (((n3 : Nat) : Int) + (1 : Int)) ∧ (((n3 : Nat) : Int) + (1 : Int)) ≤ 9223372036854775807) ∧ True) Tryd_mixed (by kernel_rfl) ⟨ob2, trivial⟩ ?_
        rw [hC0] at h
        exact loopQ_normal (_, (n2 + ((x1.getD n3 [])).length), (n3 + 1)) (Le.mk (s := ⟨36, [(0, vL 1 eLWJ [] x1), (3, .int .i64 (((n2 + ((x1.getD n3 [])).length) : Nat) : Int)), (9, vL 1 eLWJ [] x1), (10, .int .i64 (((x1).length : Nat) : Int)), (11, .int .i64 (((n3 + 1) : Nat) : Int))], [], [], 0⟩) (s' := ⟨36, [(0, vL 1 eLWJ [] x1), (3, .int .i64 (((n2 + ((x1.getD n3 [])).length) : Nat) : Int)), (9, vL 1 eLWJ [] x1), (10, .int .i64 (((x1).length : Nat) : Int)), (11, .int .i64 (((n3 + 1) : Nat) : Int))], [], [], 0⟩) rfl rfl ⟨.refl _, .refl _, .refl _, .refl _, .refl _, trivial⟩ trivial) h (Nat.lt_succ_self _)
    ·
      replace h := ite_fb hc1 h
      refine AWp.exit ?_
      refine thenQ_exit ?_
      refine thenQ_exit ?_
      refine blockQ_same ?_
      exact joinQ_normal (n2) (Le.mk (s := ⟨36, [(0, vL 1 eLWJ [] x1), (3, .int .i64 ((n2 : Nat) : Int)), (9, vL 1 eLWJ [] x1), (10, .int .i64 (((x1).length : Nat) : Int)), (11, .int .i64 ((n3 : Nat) : Int)), (12, .bool (decide (((n3 : Nat) : Int) < (((x1).length : Nat) : Int))))], [], [], 0⟩) (s' := ⟨36, [(0, vL 1 eLWJ [] x1), (3, .int .i64 ((n2 : Nat) : Int))], [], [], 0⟩) rfl rfl ⟨.refl _, .refl _, trivial⟩ trivial) h
  ·
    rintro n4 h
    replace h := (congrFun hK1 _).symm.trans h
    refine AWp.seq ?_
    obtain ⟨r5, hr5, h⟩ := bind_ok h
    refine AWp.regC [] [(1, ⟨[.nils, .int .i64 ((n4 : Nat) : Int)], [], [], [(6001, bL 28 1 eW 0#16 r5)], .own 6001, [6001], [], []⟩)] [0, 6] [6001] ⟨36, [(0, vL 1 eLWJ [] x1), (6, .own 6001)], [(6001, bL 28 1 eW 0#16 r5)], [], 0⟩ ((callP Tryd.prog true 72 [] [] [] [] [] [.nils, .int .i64 ((n4 : Nat) : Int)] [.nils, .int .i64 ((n4 : Nat) : Int)] (.own 6001) [(6001, bL 28 1 eW 0#16 r5)]) ∧ True) Tryd_mixed (by kernel_rfl) ⟨⟨fun _ => (Spec1.ren (swapN 3000 6001) (swapN_inv 3000 6001) rfl (f72_ok ((n4 : Nat) : Int) r5 hr5)), fun _ => ⟨.refl _, .refl _, trivial⟩, .inl rfl⟩, trivial⟩ ?_
    refine thenQ_normal ?_
    obtain ⟨K2, hK2, h⟩ := jn_some h
    refine AWp.join (α := List (BitVec 16)) (fun (l8 : List (BitVec 16)) => ⟨36, [(6, .own 6001)], [(6001, bL 28 1 eW 0#16 l8)], [], 0⟩) (fun x => K2 x = some r) ?_ ?_
    ·
      refine AWp.seq ?_
      refine AWp.regC [] [] [6, 25, 26, 27] [6001] ⟨36, [(6, .own 6001), (25, vL 1 eLWJ [] x1), (26, .int .i64 (((x1).length : Nat) : Int)), (27, .int .i64 (0 : Int))], [(6001, bL 28 1 eW 0#16 r5)], [], 0⟩ (True) Tryd_mixed (by kernel_rfl) trivial ?_
      refine thenQ_normal ?_
      refine AWp.block ?_
      refine AWp.loopL (α := Nat × (Nat × List (BitVec 16))) (fun x => match x with | (_, n6, l7) => ⟨36, [(6, .own 6001), (25, vL 1 eLWJ [] x1), (26, .int .i64 (((x1).length : Nat) : Int)), (27, .int .i64 ((n6 : Nat) : Int))], [(6001, bL 28 1 eW 0#16 l7)], [], 0⟩) (fun x => f50_L1 x1 K2 x.1 x.2 = some r) (fun x => x.1) (FUEL, 0, r5) (Le.mk (s := ⟨36, [(6, .own 6001), (25, vL 1 eLWJ [] x1), (26, .int .i64 (((x1).length : Nat) : Int)), (27, .int .i64 (0 : Int))], [(6001, bL 28 1 eW 0#16 r5)], [], 0⟩) (s' := ⟨36, [(6, .own 6001), (25, vL 1 eLWJ [] x1), (26, .int .i64 (((x1).length : Nat) : Int)), (27, .int .i64 (0 : Int))], [(6001, bL 28 1 eW 0#16 r5)], [], 0⟩) rfl rfl ⟨.refl _, .refl _, .refl _, .refl _, trivial⟩ ⟨⟨_, rfl, .refl _⟩, trivial⟩) h ?_
      rintro ⟨k1, n6, l7⟩ h
      cases k1 with
      | zero => exact nomatch (show (none : Option (List (BitVec 16))) = some r from h)
      | succ k1 =>
      obtain ⟨C1, hC1⟩ : ∃ C, C = f50_L1 x1 K2 k1 := ⟨_, rfl⟩
      replace h := (f50_L1.eq_2 ..).symm.trans h
      try rw [← hC1] at h
      refine AWp.seq ?_
      refine AWp.regC [] [] [6, 25, 26, 27, 28] [6001] ⟨36, [(6, .own 6001), (25, vL 1 eLWJ [] x1), (26, .int .i64 (((x1).length : Nat) : Int)), (27, .int .i64 ((n6 : Nat) : Int)), (28, .bool (decide (((n6 : Nat) : Int) < (((x1).length : Nat) : Int))))], [(6001, bL 28 1 eW 0#16 l7)], [], 0⟩ (True) Tryd_mixed (by kernel_rfl) trivial ?_
      refine thenQ_normal ?_
      refine AWp.seq ?_
      refine AWp.cond (b := (decide (((n6 : Nat) : Int) < (((x1).length : Nat) : Int)))) (by kernel_rfl) (fun hc3 => ?_) (fun hc3 => ?_)
      ·
        replace h := ite_tb hc3 h
        refine AWp.skip ?_
        refine thenQ_normal ?_
        refine AWp.seq ?_
        refine AWp.block ?_
        refine AWp.seq ?_
        obtain ⟨ob3p, h⟩ := chk_some h
        have ob3 : 0 ≤ ((n6 : Nat) : Int) ∧ ((n6 : Nat) : Int) < (((x1).length : Nat) : Int) := ⟨by omega, ob3p⟩
        refine AWp.regC [] [] [6, 8, 25, 26, 27] [6001] ⟨36, [(6, .own 6001), (8, vL 1 eW 0#16 (x1.getD n6 [])), (25, vL 1 eLWJ [] x1), (26, .int .i64 (((x1).length : Nat) : Int)), (27, .int .i64 ((n6 : Nat) : Int))], [(6001, bL 28 1 eW 0#16 l7)], [], 0⟩ ((0 ≤ ((n6 : Nat) : Int) ∧ ((n6 : Nat) : Int) < (((x1).length : Nat) : Int)) ∧ True) Tryd_mixed (by kernel_rfl) ⟨ob3, trivial⟩ ?_
        refine thenQ_normal ?_
        obtain ⟨ob4, h⟩ := chk_some h
        refine AWp.regC [] [] [6, 25, 26, 27] [6001] ⟨36, [(6, .own 6001), (25, vL 1 eLWJ [] x1), (26, .int .i64 (((x1).length : Nat) : Int)), (27, .int .i64 ((n6 : Nat) : Int))], [(6001, .rows 28 1 ((l7).length + ((x1.getD n6 [])).length) (appF (l7).length (encF eW 0#16 l7) (encF eW 0#16 (x1.getD n6 []))))], [], 0⟩ ((((l7).length + ((x1.getD n6 [])).length) * 2 ≤ 140737488355328) ∧ True) Tryd_mixed (by kernel_rfl) ⟨ob4, trivial⟩ ?_
        refine blockQ_normal ?_
        refine thenQ_normal ?_
        refine AWp.le (Le.mk (s := ⟨36, [(6, .own 6001), (25, vL 1 eLWJ [] x1), (26, .int .i64 (((x1).length : Nat) : Int)), (27, .int .i64 ((n6 : Nat) : Int))], [(6001, .rows 28 1 ((l7).length + ((x1.getD n6 [])).length) (appF (l7).length (encF eW 0#16 l7) (encF eW 0#16 (x1.getD n6 []))))], [], 0⟩) (s' := ⟨36, [(6, .own 6001), (25, vL 1 eLWJ [] x1), (26, .int .i64 (((x1).length : Nat) : Int)), (27, .int .i64 ((n6 : Nat) : Int))], [(6001, bL 28 1 eW 0#16 (l7 ++ (x1.getD n6 [])))], [], 0⟩) rfl rfl ⟨.refl _, .refl _, .refl _, .refl _, trivial⟩ ⟨⟨_, rfl, (BLe.of (RL.app (RL.self _) (RL.self _)))⟩, trivial⟩) ?_
        obtain ⟨ob5p, h⟩ := chk_some h
        have ob5 : -9223372036854775808 ≤ (((n6 : Nat) : Int) + (1 : Int)) ∧ (((n6 : Nat) : Int) + (1 : Int)) ≤ 9223372036854775807 := ⟨by omega, ob5p⟩
        refine AWp.regC [] [] [6, 25, 26, 27] [6001] ⟨36, [(6, .own 6001), (25, vL 1 eLWJ [] x1), (26, .int .i64 (((x1).length : Nat) : Int)), (27, .int .i64 (((n6 + 1) : Nat) : Int))], [(6001, bL 28 1 eW 0#16 (l7 ++ (x1.getD n6 [])))], [], 0⟩ ((-9223372036854775808 ≤ (((n6 : Nat) : Int) + (1 : Int)) ∧ (((n6 : Nat) : Int) + (1 : Int)) ≤ 9223372036854775807) ∧ True) Tryd_mixed (by kernel_rfl) ⟨ob5, trivial⟩ ?_
        rw [hC1] at h
        exact loopQ_normal (_, (n6 + 1), (l7 ++ (x1.getD n6 []))) (Le.mk (s := ⟨36, [(6, .own 6001), (25, vL 1 eLWJ [] x1), (26, .int .i64 (((x1).length : Nat) : Int)), (27, .int .i64 (((n6 + 1) : Nat) : Int))], [(6001, bL 28 1 eW 0#16 (l7 ++ (x1.getD n6 [])))], [], 0⟩) (s' := ⟨36, [(6, .own 6001), (25, vL 1 eLWJ [] x1), (26, .int .i64 (((x1).length : Nat) : Int)), (27, .int .i64 (((n6 + 1) : Nat) : Int))], [(6001, bL 28 1 eW 0#16 (l7 ++ (x1.getD n6 [])))], [], 0⟩) rfl rfl ⟨.refl _, .refl _, .refl _, .refl _, trivial⟩ ⟨⟨_, rfl, .refl _⟩, trivial⟩) h (Nat.lt_succ_self _)
      ·
        replace h := ite_fb hc3 h
        refine AWp.exit ?_
        refine thenQ_exit ?_
        refine thenQ_exit ?_
        refine blockQ_same ?_
        exact joinQ_normal (l7) (Le.mk (s := ⟨36, [(6, .own 6001), (25, vL 1 eLWJ [] x1), (26, .int .i64 (((x1).length : Nat) : Int)), (27, .int .i64 ((n6 : Nat) : Int)), (28, .bool (decide (((n6 : Nat) : Int) < (((x1).length : Nat) : Int))))], [(6001, bL 28 1 eW 0#16 l7)], [], 0⟩) (s' := ⟨36, [(6, .own 6001)], [(6001, bL 28 1 eW 0#16 l7)], [], 0⟩) rfl rfl ⟨.refl _, trivial⟩ ⟨⟨_, rfl, .refl _⟩, trivial⟩) h
    ·
      rintro l8 h
      replace h := (congrFun hK2 _).symm.trans h
      refine AWp.seq ?_
      refine AWp.regC [] [] [2] [6001] ⟨36, [(2, .own 6001)], [(6001, bL 28 1 eW 0#16 l8)], [], 0⟩ (True) Tryd_mixed (by kernel_rfl) trivial ?_
      refine thenQ_normal ?_
      refine AWp.le (Le.trans (Le.ren (s := ⟨36, [(2, .own 6001)], [(6001, bL 28 1 eW 0#16 l8)], [], 0⟩) (swapN 6001 3000) (swapN_inv 6001 3000) rfl) (Le.mk (s' := ⟨36, [(2, .own 3000)], [(3000, bL 28 1 eW 0#16 l8)], [], 0⟩) rfl rfl ⟨.refl _, trivial⟩ ⟨⟨_, rfl, .refl _⟩, trivial⟩)) ?_
      have hret := Option.some.inj h
      subst hret
      refine AWp.le (Le.mk (s := ⟨36, [(2, .own 3000)], [(3000, bL 28 1 eW 0#16 l8)], [], 0⟩) (s' := ⟨36, [(2, .own 3000)], [(3000, bL 28 1 eW 0#16 l8)], [], 0⟩) rfl rfl ⟨.refl _, trivial⟩ ⟨⟨_, rfl, .refl _⟩, trivial⟩) ?_
      refine AWp.ret ?_
      exact bodyQ_ret _ rfl ⟨rfl, rfl⟩ rfl
def f19 (x1 : List (BitVec 16)) (x2 : List (BitVec 16)) : Option (List (BitVec 16) × Int) :=
  (f48 x1 x2).bind fun (r3 : Int) =>
  if (r3 != (0 : Int)) then (
  some ([], r3)
  ) else (
  (f50 [x1, x2]).bind fun (r4 : List (BitVec 16)) =>
  (f43 r4).bind fun (r5 : List (BitVec 16)) =>
  (f49 r5).bind fun (r6 : List (BitVec 16) × Int) =>
  some (r6.1, r6.2)
  )
set_option maxRecDepth 100000 in
theorem f19_ok  (x1 : List (BitVec 16)) (x2 : List (BitVec 16)) (r : List (BitVec 16) × Int) (h : f19 x1 x2 = some r)  : Spec1 Tryd.prog 19 [] [] [] [vL 1 eW 0#16 x1, vL 1 eW 0#16 x2] (.tup [vL 1 eW 0#16 r.1, .int .i64 r.2]) [] := by
  unfold f19 at h
  refine Spec1.body 0 _ _ Tryd.func19 rfl Tryd.ntmps19 rfl rfl ?_
  refine AWp.seq ?_
  refine AWp.regC [] [] [0, 1] [] ⟨21, [(0, vL 1 eW 0#16 x1), (1, vL 1 eW 0#16 x2)], [], [], 0⟩ (True) Tryd_mixed (by kernel_rfl) trivial ?_
  refine thenQ_normal ?_
  refine AWp.seq ?_
  refine AWp.seq ?_
  obtain ⟨r3, hr3, h⟩ := bind_ok h
  refine AWp.regC [] [(2, ⟨[vL 1 eW 0#16 x1, vL 1 eW 0#16 x2], [], [], [], .int .i64 r3, [], [], []⟩)] [0, 1, 6] [] ⟨21, [(0, vL 1 eW 0#16 x1), (1, vL 1 eW 0#16 x2), (6, .int .i64 r3)], [], [], 0⟩ ((callP Tryd.prog true 48 [] [] [] [] [] [vL 1 eW 0#16 x1, vL 1 eW 0#16 x2] [vL 1 eW 0#16 x1, vL 1 eW 0#16 x2] (.int .i64 r3) []) ∧ True) Tryd_mixed (by kernel_rfl) ⟨⟨fun _ => (f48_ok x1 x2 r3 hr3), fun _ => ⟨.refl _, .refl _, trivial⟩, .inl rfl⟩, trivial⟩ ?_
  refine thenQ_normal ?_
  refine AWp.seq ?_
  refine AWp.regC [] [] [0, 1, 6, 11] [] ⟨21, [(0, vL 1 eW 0#16 x1), (1, vL 1 eW 0#16 x2), (6, .int .i64 r3), (11, .bool (r3 != (0 : Int)))], [], [], 0⟩ (True) Tryd_mixed (by kernel_rfl) trivial ?_
  refine thenQ_normal ?_
  refine AWp.cond (b := (r3 != (0 : Int))) (by kernel_rfl) (fun hc1 => ?_) (fun hc1 => ?_)
  ·
    replace h := ite_tb hc1 h
    refine AWp.seq ?_
    refine AWp.regC [] [] [4, 5] [] ⟨21, [(4, .nils), (5, .int .i64 r3)], [], [], 0⟩ (True) Tryd_mixed (by kernel_rfl) trivial ?_
    refine thenQ_normal ?_
    have hret := Option.some.inj h
    subst hret
    refine AWp.le (Le.mk (s := ⟨21, [(4, .nils), (5, .int .i64 r3)], [], [], 0⟩) (s' := ⟨21, [(4, vL 1 eW 0#16 []), (5, .int .i64 r3)], [], [], 0⟩) rfl rfl ⟨.nilL, .refl _, trivial⟩ trivial) ?_
    refine AWp.ret ?_
    refine thenQ_ret ?_
    exact bodyQ_ret _ rfl ⟨rfl, rfl⟩ rfl
  ·
    replace h := ite_fb hc1 h
    refine AWp.skip ?_
    refine thenQ_normal ?_
    refine AWp.seq ?_
    obtain ⟨r4, hr4, h⟩ := bind_ok h
    obtain ⟨r5, hr5, h⟩ := bind_ok h
    obtain ⟨r6, hr6, h⟩ := bind_ok h
    refine AWp.regC [] [(3, ⟨[vL 1 eLWJ [] [x1, x2]], [], [], [(6001, bL 28 1 eW 0#16 r4)], .own 6001, [6001], [15], []⟩), (4, ⟨[vL 1 eW 0#16 r4], [], [], [(6002, bL 28 1 eW 0#16 r5)], .own 6002, [6002], [6001], []⟩), (5, ⟨[.own 6002], [6002], [], [], .tup [vL 1 eW 0#16 r6.1, .int .i64 r6.2], [], [], []⟩)] [4, 5] [] ⟨21, [(4, vL 1 eW 0#16 r6.1), (5, .int .i64 r6.2)], [], [], 0⟩ ((callP Tryd.prog true 50 [] [] [] [(15, .rows 22 1 2 (lstF 1 [vL 1 eW 0#16 x1, vL 1 eW 0#16 x2]))] [15] [.own 15] [vL 1 eLWJ [] [x1, x2]] (.own 6001) [(6001, bL 28 1 eW 0#16 r4)]) ∧ (callP Tryd.prog true 43 [] [] [] [(6001, bL 28 1 eW 0#16 r4)] [6001] [.own 6001] [vL 1 eW 0#16 r4] (.own 6002) [(6002, bL 28 1 eW 0#16 r5)]) ∧ (callP Tryd.prog true 49 [] [] [(6002, bL 28 1 eW 0#16 r5)] [] [] [.own 6002] [.own 6002] (.tup [vL 1 eW 0#16 r6.1, .int .i64 r6.2]) []) ∧ True) Tryd_mixed (by kernel_rfl) ⟨⟨fun _ => (Spec1.ren (swapN 3000 6001) (swapN_inv 3000 6001) rfl (f50_ok [x1, x2] r4 hr4)), fun _ => ⟨(VLe.of (RL.lst (enc := eLWJ) [x1, x2] rfl rfl (fun _ => rfl))), trivial⟩, .inr ⟨rfl, ⟨(fun _ _ _ _ => eW_flat _ _), trivial⟩⟩⟩, ⟨fun _ => (Spec1.ren (swapN 3000 6002) (swapN_inv 3000 6002) rfl (f43_ok r4 r5 hr5)), fun _ => ⟨.refl _, trivial⟩, .inr ⟨rfl, ⟨(fun _ _ _ _ => eW_flat _ _), trivial⟩⟩⟩, ⟨fun _ => (Spec1.pre (f49_ok r5 r6 hr6) rfl rfl rfl (Le.trans (Le.freeze (s := ⟨1, [(0, .own 6002)], [(6002, bL 28 1 eW 0#16 r5)], [], 0⟩) 6002 rfl rfl) (Le.mk (s' := ⟨1, [(0, vL 1 eW 0#16 r5)], [], [], 0⟩) rfl rfl ⟨.refl _, trivial⟩ trivial))), fun _ => ⟨.refl _, trivial⟩, .inl rfl⟩, trivial⟩ ?_
    refine thenQ_normal ?_
    have hret := Option.some.inj h
    subst hret
    refine AWp.le (Le.mk (s := ⟨21, [(4, vL 1 eW 0#16 r6.1), (5, .int .i64 r6.2)], [], [], 0⟩) (s' := ⟨21, [(4, vL 1 eW 0#16 r6.1), (5, .int .i64 r6.2)], [], [], 0⟩) rfl rfl ⟨.refl _, .refl _, trivial⟩ trivial) ?_
    refine AWp.ret ?_
    exact bodyQ_ret _ rfl ⟨rfl, rfl⟩ rfl
def f23_L0 (x1 : List (BitVec 16)) (x2 : BitVec 16) (K1 : (List (BitVec 16)) → Option (List (BitVec 16) × Int)) : Nat → (Nat × List (BitVec 16)) → Option (List (BitVec 16) × Int)
  | 0, _ => none
  | k + 1, (n4, l5) =>
    if (decide (((n4 : Nat) : Int) < (((x1).length : Nat) : Int))) then (
    chk (((n4 : Nat) : Int) < (((x1).length : Nat) : Int)) <|
    chk (((l5).length + 1) * 2 ≤ 140737488355328) <|
    chk ((((n4 : Nat) : Int) + (1 : Int)) ≤ 9223372036854775807) <|
    (f23_L0 x1 x2 K1 k) ((n4 + 1), (l5 ++ [((x1.getD n4 0#16) &&& ~~~x2)]))
    ) else (
    K1 l5
    )
def f23 (x1 : List (BitVec 16)) (x2 : BitVec 16) : Option (List (BitVec 16) × Int) :=
  (f11 x1).bind fun (r3 : Int) =>
  if (r3 != (0 : Int)) then (
  some ([], r3)
  ) else (
  jn (fun (l6 : List (BitVec 16)) =>
  (f43 l6).bind fun (r7 : List (BitVec 16)) =>
  (f49 r7).bind fun (r8 : List (BitVec 16) × Int) =>
  some (r8.1, r8.2)
  ) fun (K1 : (List (BitVec 16)) → Option (List (BitVec 16) × Int)) =>
  f23_L0 x1 x2 K1 FUEL (0, [])
  )
set_option maxRecDepth 100000 in
theorem f23_ok  (x1 : List (BitVec 16)) (x2 : BitVec 16) (r : List (BitVec 16) × Int) (h : f23 x1 x2 = some r)  : Spec1 Tryd.prog 23 [] [] [] [vL 1 eW 0#16 x1, .b16 x2] (.tup [vL 1 eW 0#16 r.1, .int .i64 r.2]) [] := by
  unfold f23 at h
  refine Spec1.body 0 _ _ Tryd.func23 rfl Tryd.ntmps23 rfl rfl ?_
  refine AWp.seq ?_
  refine AWp.regC [] [] [0, 1] [] ⟨33, [(0, vL 1 eW 0#16 x1), (1, .b16 x2)], [], [], 0⟩ (True) Tryd_mixed (by kernel_rfl) trivial ?_
  refine thenQ_normal ?_
  refine AWp.seq ?_
  refine AWp.seq ?_
  obtain ⟨r3, hr3, h⟩ := bind_ok h
  refine AWp.regC [] [(1, ⟨[vL 1 eW 0#16 x1], [], [], [], .int .i64 r3, [], [], []⟩)] [0, 1, 6] [] ⟨33, [(0, vL 1 eW 0#16 x1), (1, .b16 x2), (6, .int .i64 r3)], [], [], 0⟩ ((callP Tryd.prog true 11 [] [] [] [] [] [vL 1 eW 0#16 x1] [vL 1 eW 0#16 x1] (.int .i64 r3) []) ∧ True) Tryd_mixed (by kernel_rfl) ⟨⟨fun _ => (f11_ok x1 r3 hr3), fun _ => ⟨.refl _, trivial⟩, .inl rfl⟩, trivial⟩ ?_
  refine thenQ_normal ?_
  refine AWp.seq ?_
  refine AWp.regC [] [] [0, 1, 6, 13] [] ⟨33, [(0, vL 1 eW 0#16 x1), (1, .b16 x2), (6, .int .i64 r3), (13, .bool (r3 != (0 : Int)))], [], [], 0⟩ (True) Tryd_mixed (by kernel_rfl) trivial ?_
  refine thenQ_normal ?_
  refine AWp.cond (b := (r3 != (0 : Int))) (by kernel_rfl) (fun hc1 => ?_) (fun hc1 => ?_)
  ·
    replace h := ite_tb hc1 h
    refine AWp.seq ?_
    refine AWp.regC [] [] [4, 5] [] ⟨33, [(4, .nils), (5, .int .i64 r3)], [], [], 0⟩ (True) Tryd_mixed (by kernel_rfl) trivial ?_
    refine thenQ_normal ?_
    have hret := Option.some.inj h
    subst hret
    refine AWp.le (Le.mk (s := ⟨33, [(4, .nils), (5, .int .i64 r3)], [], [], 0⟩) (s' := ⟨33, [(4, vL 1 eW 0#16 []), (5, .int .i64 r3)], [], [], 0⟩) rfl rfl ⟨.nilL, .refl _, trivial⟩ trivial) ?_
    refine AWp.ret ?_
    refine thenQ_ret ?_
    exact bodyQ_ret _ rfl ⟨rfl, rfl⟩ rfl
  ·
    replace h := ite_fb hc1 h
    refine AWp.skip ?_
    refine thenQ_normal ?_
    refine AWp.seq ?_
    refine AWp.regC [] [] [0, 1, 7] [] ⟨33, [(0, vL 1 eW 0#16 x1), (1, .b16 x2), (7, .nils)], [], [], 0⟩ (True) Tryd_mixed (by kernel_rfl) trivial ?_
    refine thenQ_normal ?_
    obtain ⟨K1, hK1, h⟩ := jn_some h
    refine AWp.join (α := List (BitVec 16)) (fun (l6 : List (BitVec 16)) => ⟨33, [(7, .own 5007)], [(5007, bL 28 1 eW 0#16 l6)], [], 0⟩) (fun x => K1 x = some r) ?_ ?_
    ·
      refine AWp.seq ?_
      refine AWp.regC [] [] [1, 7, 15, 16, 17] [] ⟨33, [(1, .b16 x2), (7, .nils), (15, vL 1 eW 0#16 x1), (16, .int .i64 (((x1).length : Nat) : Int)), (17, .int .i64 (0 : Int))], [], [], 0⟩ (True) Tryd_mixed (by kernel_rfl) trivial ?_
      refine thenQ_normal ?_
      refine AWp.block ?_
      refine AWp.loopL (α := Nat × (Nat × List (BitVec 16))) (fun x => match x with | (_, n4, l5) => ⟨33, [(1, .b16 x2), (7, .own 5007), (15, vL 1 eW 0#16 x1), (16, .int .i64 (((x1).length : Nat) : Int)), (17, .int .i64 ((n4 : Nat) : Int))], [(5007, bL 28 1 eW 0#16 l5)], [], 0⟩) (fun x => f23_L0 x1 x2 K1 x.1 x.2 = some r) (fun x => x.1) (FUEL, 0, []) (Le.trans (Le.trans (Le.nilOwn (s := ⟨33, [(1, .b16 x2), (7, .nils), (15, vL 1 eW 0#16 x1), (16, .int .i64 (((x1).length : Nat) : Int)), (17, .int .i64 (0 : Int))], [], [], 0⟩) 7 5007 28 1 (encF eW 0#16 []) rfl rfl (Nat.le_of_ble_eq_true rfl)) (Le.mk (s' := ⟨33, [(1, .b16 x2), (7, .own 5007), (15, vL 1 eW 0#16 x1), (16, .int .i64 (((x1).length : Nat) : Int)), (17, .int .i64 (0 : Int))], [(5007, bL 28 1 eW 0#16 [])], [], 0⟩) rfl rfl ⟨.refl _, .refl _, .refl _, .refl _, .refl _, trivial⟩ ⟨⟨_, rfl, .refl _⟩, trivial⟩)) (Le.mk (s := ⟨33, [(1, .b16 x2), (7, .own 5007), (15, vL 1 eW 0#16 x1), (16, .int .i64 (((x1).length : Nat) : Int)), (17, .int .i64 (0 : Int))], [(5007, bL 28 1 eW 0#16 [])], [], 0⟩) (s' := ⟨33, [(1, .b16 x2), (7, .own 5007), (15, vL 1 eW 0#16 x1), (16, .int .i64 (((x1).length : Nat) : Int)), (17, .int .i64 (0 : Int))], [(5007, bL 28 1 eW 0#16 [])], [], 0⟩) rfl rfl ⟨.refl _, .refl _, .refl _, .refl _, .refl _, trivial⟩ ⟨⟨_, rfl, .refl _⟩, trivial⟩)) h ?_
      rintro ⟨k0, n4, l5⟩ h
      cases k0 with
      | zero => exact nomatch (show (none : Option (List (BitVec 16) × Int)) = some r from h)
      | succ k0 =>
      obtain ⟨C0, hC0⟩ : ∃ C, C = f23_L0 x1 x2 K1 k0 := ⟨_, rfl⟩
      replace h := (f23_L0.eq_2 ..).symm.trans h
      try rw [← hC0] at h
      refine AWp.seq ?_
      refine AWp.regC [] [] [1, 7, 15, 16, 17, 18] [5007] ⟨33, [(1, .b16 x2), (7, .own 5007), (15, vL 1 eW 0#16 x1), (16, .int .i64 (((x1).length : Nat) : Int)), (17, .int .i64 ((n4 : Nat) : Int)), (18, .bool (decide (((n4 : Nat) : Int) < (((x1).length : Nat) : Int))))], [(5007, bL 28 1 eW 0#16 l5)], [], 0⟩ (True) Tryd_mixed (by kernel_rfl) trivial ?_
      refine thenQ_normal ?_
      refine AWp.seq ?_
      refine AWp.cond (b := (decide (((n4 : Nat) : Int) < (((x1).length : Nat) : Int)))) (by kernel_rfl) (fun hc2 => ?_) (fun hc2 => ?_)
      ·
        replace h := ite_tb hc2 h
        refine AWp.skip ?_
        refine thenQ_normal ?_
        refine AWp.seq ?_
        refine AWp.block ?_
        refine AWp.seq ?_
        obtain ⟨ob0p, h⟩ := chk_some h
        have ob0 : 0 ≤ ((n4 : Nat) : Int) ∧ ((n4 : Nat) : Int) < (((x1).length : Nat) : Int) := ⟨by omega, ob0p⟩
        refine AWp.regC [] [] [1, 7, 9, 15, 16, 17] [5007] ⟨33, [(1, .b16 x2), (7, .own 5007), (9, .b16 (x1.getD n4 0#16)), (15, vL 1 eW 0#16 x1), (16, .int .i64 (((x1).length : Nat) : Int)), (17, .int .i64 ((n4 : Nat) : Int))], [(5007, bL 28 1 eW 0#16 l5)], [], 0⟩ ((0 ≤ ((n4 : Nat) : Int) ∧ ((n4 : Nat) : Int) < (((x1).length : Nat) : Int)) ∧ True) Tryd_mixed (by kernel_rfl) ⟨ob0, trivial⟩ ?_
        refine thenQ_normal ?_
        obtain ⟨ob1, h⟩ := chk_some h
        refine AWp.regC [] [] [1, 7, 15, 16, 17] [5007] ⟨33, [(1, .b16 x2), (7, .own 5007), (15, vL 1 eW 0#16 x1), (16, .int .i64 (((x1).length : Nat) : Int)), (17, .int .i64 ((n4 : Nat) : Int))], [(5007, .rows 28 1 ((l5).length + 1) (appF (l5).length (encF eW 0#16 l5) (lstF 1 [.b16 ((x1.getD n4 0#16) &&& ~~~x2)])))], [], 0⟩ ((((l5).length + 1) * 2 ≤ 140737488355328) ∧ True) Tryd_mixed (by kernel_rfl) ⟨ob1, trivial⟩ ?_
        refine blockQ_normal ?_
        refine thenQ_normal ?_
        refine AWp.le (Le.mk (s := ⟨33, [(1, .b16 x2), (7, .own 5007), (15, vL 1 eW 0#16 x1), (16, .int .i64 (((x1).length : Nat) : Int)), (17, .int .i64 ((n4 : Nat) : Int))], [(5007, .rows 28 1 ((l5).length + 1) (appF (l5).length (encF eW 0#16 l5) (lstF 1 [.b16 ((x1.getD n4 0#16) &&& ~~~x2)])))], [], 0⟩) (s' := ⟨33, [(1, .b16 x2), (7, .own 5007), (15, vL 1 eW 0#16 x1), (16, .int .i64 (((x1).length : Nat) : Int)), (17, .int .i64 ((n4 : Nat) : Int))], [(5007, bL 28 1 eW 0#16 (l5 ++ [((x1.getD n4 0#16) &&& ~~~x2)]))], [], 0⟩) rfl rfl ⟨.refl _, .refl _, .refl _, .refl _, .refl _, trivial⟩ ⟨⟨_, rfl, (BLe.of (RL.app (RL.self _) (RL.lst (enc := eW) [((x1.getD n4 0#16) &&& ~~~x2)] rfl rfl (fun _ => rfl))))⟩, trivial⟩) ?_
        obtain ⟨ob2p, h⟩ := chk_some h
        have ob2 : -9223372036854775808 ≤ (((n4 : Nat) : Int) + (1 : Int)) ∧ (((n4 : Nat) : Int) + (1 : Int)) ≤ 9223372036854775807 := ⟨by omega, ob2p⟩
        refine AWp.regC [] [] [1, 7, 15, 16, 17] [5007] ⟨33, [(1, .b16 x2), (7, .own 5007), (15, vL 1 eW 0#16 x1), (16, .int .i64 (((x1).length : Nat) : Int)), (17, .int .i64 (((n4 + 1) : Nat) : Int))], [(5007, bL 28 1 eW 0#16 (l5 ++ [((x1.getD n4 0#16) &&& ~~~x2)]))], [], 0⟩ ((-9223372036854775808 ≤ (((n4 : Nat) : Int) + (1 : Int)) ∧ (((n4 : Nat) : Int) + (1 : Int)) ≤ 9223372036854775807) ∧ True) Tryd_mixed (by kernel_rfl) ⟨ob2, trivial⟩ ?_
        rw [hC0] at h
        exact loopQ_normal (_, (n4 + 1), (l5 ++ [((x1.getD n4 0#16) &&& ~~~x2)])) (Le.mk (s := ⟨33, [(1, .b16 x2), (7, .own 5007), (15, vL 1 eW 0#16 x1), (16, .int .i64 (((x1).length : Nat) : Int)), (17, .int .i64 (((n4 + 1) : Nat) : Int))], [(5007, bL 28 1 eW 0#16 (l5 ++ [((x1.getD n4 0#16) &&& ~~~x2)]))], [], 0⟩) (s' := ⟨33, [(1, .b16 x2), (7, .own 5007), (15, vL 1 eW 0#16 x1), (16, .int .i64 (((x1).length : Nat) : Int)), (17, .int .i64 (((n4 + 1) : Nat) : Int))], [(5007, bL 28 1 eW 0#16 (l5 ++ [((x1.getD n4 0#16) &&& ~~~x2)]))], [], 0⟩) rfl rfl ⟨.refl _, .refl _, .refl _, .refl _, .refl _, trivial⟩ ⟨⟨_, rfl, .refl _⟩, trivial⟩) h (Nat.lt_succ_self _)
      ·
        replace h := ite_fb hc2 h
        refine AWp.exit ?_
        refine thenQ_exit ?_
        refine thenQ_exit ?_
        refine blockQ_same ?_
        exact joinQ_normal (l5) (Le.mk (s := ⟨33, [(1, .b16 x2), (7, .own 5007), (15, vL 1 eW 0#16 x1), (16, .int .i64 (((x1).length : Nat) : Int)), (17, .int .i64 ((n4 : Nat) : Int)), (18, .bool (decide (((n4 : Nat) : Int) < (((x1).length : Nat) : Int))))], [(5007, bL 28 1 eW 0#16 l5)], [], 0⟩) (s' := ⟨33, [(7, .own 5007)], [(5007, bL 28 1 eW 0#16 l5)], [], 0⟩) rfl rfl ⟨.refl _, trivial⟩ ⟨⟨_, rfl, .refl _⟩, trivial⟩) h
    ·
      rintro l6 h
      replace h := (congrFun hK1 _).symm.trans h
      refine AWp.seq ?_
      obtain ⟨r7, hr7, h⟩ := bind_ok h
      obtain ⟨r8, hr8, h⟩ := bind_ok h
      refine AWp.regC [] [(1, ⟨[vL 1 eW 0#16 l6], [], [], [(6001, bL 28 1 eW 0#16 r7)], .own 6001, [6001], [5007], []⟩), (2, ⟨[.own 6001], [6001], [], [], .tup [vL 1 eW 0#16 r8.1, .int .i64 r8.2], [], [], []⟩)] [4, 5] [] ⟨33, [(4, vL 1 eW 0#16 r8.1), (5, .int .i64 r8.2)], [], [], 0⟩ ((callP Tryd.prog true 43 [] [] [] [(5007, bL 28 1 eW 0#16 l6)] [5007] [.own 5007] [vL 1 eW 0#16 l6] (.own 6001) [(6001, bL 28 1 eW 0#16 r7)]) ∧ (callP Tryd.prog true 49 [] [] [(6001, bL 28 1 eW 0#16 r7)] [] [] [.own 6001] [.own 6001] (.tup [vL 1 eW 0#16 r8.1, .int .i64 r8.2]) []) ∧ True) Tryd_mixed (by kernel_rfl) ⟨⟨fun _ => (Spec1.ren (swapN 3000 6001) (swapN_inv 3000 6001) rfl (f43_ok l6 r7 hr7)), fun _ => ⟨.refl _, trivial⟩, .inr ⟨rfl, ⟨(fun _ _ _ _ => eW_flat _ _), trivial⟩⟩⟩, ⟨fun _ => (Spec1.pre (f49_ok r7 r8 hr8) rfl rfl rfl (Le.trans (Le.freeze (s := ⟨1, [(0, .own 6001)], [(6001, bL 28 1 eW 0#16 r7)], [], 0⟩) 6001 rfl rfl) (Le.mk (s' := ⟨1, [(0, vL 1 eW 0#16 r7)], [], [], 0⟩) rfl rfl ⟨.refl _, trivial⟩ trivial))), fun _ => ⟨.refl _, trivial⟩, .inl rfl⟩, trivial⟩ ?_
      refine thenQ_normal ?_
      have hret := Option.some.inj h
      subst hret
      refine AWp.le (Le.mk (s := ⟨33, [(4, vL 1 eW 0#16 r8.1), (5, .int .i64 r8.2)], [], [], 0⟩) (s' := ⟨33, [(4, vL 1 eW 0#16 r8.1), (5, .int .i64 r8.2)], [], [], 0⟩) rfl rfl ⟨.refl _, .refl _, trivial⟩ trivial) ?_
      refine AWp.ret ?_
      exact bodyQ_ret _ rfl ⟨rfl, rfl⟩ rfl
def f25_L0 (x1 : List (BitVec 16)) (x2 : BitVec 16) (K1 : (List (BitVec 16)) → Option (Int × List (BitVec 16))) : Nat → (Nat × List (BitVec 16)) → Option (Int × List (BitVec 16))
  | 0, _ => none
  | k + 1, (n4, l5) =>
    if (decide (((n4 : Nat) : Int) < (((x1).length : Nat) : Int))) then (
    jn (fun (l6 : List (BitVec 16)) =>
    chk ((((n4 : Nat) : Int) + (1 : Int)) ≤ 9223372036854775807) <|
    (f25_L0 x1 x2 K1 k) ((n4 + 1), l6)
    ) fun (K2 : (List (BitVec 16)) → Option (Int × List (BitVec 16))) =>
    chk (((n4 : Nat) : Int) < (((x1).length : Nat) : Int)) <|
    if (((x1.getD n4 0#16) &&& x2) == (BitVec.ofInt 16 0)) then (
    chk (((l5).length + 1) * 2 ≤ 140737488355328) <|
    K2 (l5 ++ [(x1.getD n4 0#16)])
    ) else (
    K2 l5
    )
    ) else (
    K1 l5
    )
def f25 (x1 : List (BitVec 16)) (x2 : BitVec 16) : Option (Int × List (BitVec 16)) :=
  (f11 x1).bind fun (r3 : Int) =>
  if (r3 != (0 : Int)) then (
  some (r3, [])
  ) else (
  jn (fun (l7 : List (BitVec 16)) =>
  some ((0 : Int), l7)
  ) fun (K1 : (List (BitVec 16)) → Option (Int × List (BitVec 16))) =>
  f25_L0 x1 x2 K1 FUEL (0, [])
  )
set_option maxRecDepth 100000 in
theorem f25_ok  (x1 : List (BitVec 16)) (x2 : BitVec 16) (r : Int × List (BitVec 16)) (h : f25 x1 x2 = some r)  : Spec1 Tryd.prog 25 [] [] [] [vL 1 eW 0#16 x1, .b16 x2] (.tup [.own 3000, .int .i64 r.1]) [(3000, bL 28 1 eW 0#16 r.2)] := by
  unfold f25 at h
  refine Spec1.body 0 _ _ Tryd.func25 rfl Tryd.ntmps25 rfl rfl ?_
  refine AWp.seq ?_
  refine AWp.regC [] [] [0, 1] [] ⟨31, [(0, vL 1 eW 0#16 x1), (1, .b16 x2)], [], [], 0⟩ (True) Tryd_mixed (by kernel_rfl) trivial ?_
  refine thenQ_normal ?_
  refine AWp.seq ?_
  refine AWp.seq ?_
  obtain ⟨r3, hr3, h⟩ := bind_ok h
  refine AWp.regC [] [(1, ⟨[vL 1 eW 0#16 x1], [], [], [], .int .i64 r3, [], [], []⟩)] [0, 1, 6] [] ⟨31, [(0, vL 1 eW 0#16 x1), (1, .b16 x2), (6, .int .i64 r3)], [], [], 0⟩ ((callP Tryd.prog true 11 [] [] [] [] [] [vL 1 eW 0#16 x1] [vL 1 eW 0#16 x1] (.int .i64 r3) []) ∧ True) Tryd_mixed (by kernel_rfl) ⟨⟨fun _ => (f11_ok x1 r3 hr3), fun _ => ⟨.refl _, trivial⟩, .inl rfl⟩, trivial⟩ ?_
  refine thenQ_normal ?_
  refine AWp.seq ?_
  refine AWp.regC [] [] [0, 1, 6, 13] [] ⟨31, [(0, vL 1 eW 0#16 x1), (1, .b16 x2), (6, .int .i64 r3), (13, .bool (r3 != (0 : Int)))], [], [], 0⟩ (True) Tryd_mixed (by kernel_rfl) trivial ?_
  refine thenQ_normal ?_
  refine AWp.cond (b := (r3 != (0 : Int))) (by kernel_rfl) (fun hc1 => ?_) (fun hc1 => ?_)
  ·
    replace h := ite_tb hc1 h
    refine AWp.seq ?_
    refine AWp.regC [] [] [4, 5] [] ⟨31, [(4, .nils), (5, .int .i64 r3)], [], [], 0⟩ (True) Tryd_mixed (by kernel_rfl) trivial ?_
    refine thenQ_normal ?_
    refine AWp.le (Le.trans (Le.nilOwn (s := ⟨31, [(4, .nils), (5, .int .i64 r3)], [], [], 0⟩) 4 3000 28 1 (encF eW 0#16 []) rfl rfl (Nat.le_of_ble_eq_true rfl)) (Le.mk (s' := ⟨31, [(4, .own 3000), (5, .int .i64 r3)], [(3000, bL 28 1 eW 0#16 [])], [], 0⟩) rfl rfl ⟨.refl _, .refl _, trivial⟩ ⟨⟨_, rfl, .refl _⟩, trivial⟩)) ?_
    have hret := Option.some.inj h
    subst hret
    refine AWp.le (Le.mk (s := ⟨31, [(4, .own 3000), (5, .int .i64 r3)], [(3000, bL 28 1 eW 0#16 [])], [], 0⟩) (s' := ⟨31, [(4, .own 3000), (5, .int .i64 r3)], [(3000, bL 28 1 eW 0#16 [])], [], 0⟩) rfl rfl ⟨.refl _, .refl _, trivial⟩ ⟨⟨_, rfl, .refl _⟩, trivial⟩) ?_
    refine AWp.ret ?_
    refine thenQ_ret ?_
    exact bodyQ_ret _ rfl ⟨rfl, rfl⟩ rfl
  ·
    replace h := ite_fb hc1 h
    refine AWp.skip ?_
    refine thenQ_normal ?_
    refine AWp.seq ?_
    refine AWp.regC [] [] [0, 1, 7] [] ⟨31, [(0, vL 1 eW 0#16 x1), (1, .b16 x2), (7, .nils)], [], [], 0⟩ (True) Tryd_mixed (by kernel_rfl) trivial ?_
    refine thenQ_normal ?_
    obtain ⟨K1, hK1, h⟩ := jn_some h
    refine AWp.join (α := List (BitVec 16)) (fun (l7 : List (BitVec 16)) => ⟨31, [(7, .own 5007)], [(5007, bL 28 1 eW 0#16 l7)], [], 0⟩) (fun x => K1 x = some r) ?_ ?_
    ·
      refine AWp.seq ?_
      refine AWp.regC [] [] [1, 7, 15, 16, 17] [] ⟨31, [(1, .b16 x2), (7, .nils), (15, vL 1 eW 0#16 x1), (16, .int .i64 (((x1).length : Nat) : Int)), (17, .int .i64 (0 : Int))], [], [], 0⟩ (True) Tryd_mixed (by kernel_rfl) trivial ?_
      refine thenQ_normal ?_
      refine AWp.block ?_
      refine AWp.loopL (α := Nat × (Nat × List (BitVec 16))) (fun x => match x with | (_, n4, l5) => ⟨31, [(1, .b16 x2), (7, .own 5007), (15, vL 1 eW 0#16 x1), (16, .int .i64 (((x1).length : Nat) : Int)), (17, .int .i64 ((n4 : Nat) : Int))], [(5007, bL 28 1 eW 0#16 l5)], [], 0⟩) (fun x => f25_L0 x1 x2 K1 x.1 x.2 = some r) (fun x => x.1) (FUEL, 0, []) (Le.trans (Le.trans (Le.nilOwn (s := ⟨31, [(1, .b16 x2), (7, .nils), (15, vL 1 eW 0#16 x1), (16, .int .i64 (((x1).length : Nat) : Int)), (17, .int .i64 (0 : Int))], [], [], 0⟩) 7 5007 28 1 (encF eW 0#16 []) rfl rfl (Nat.le_of_ble_eq_true rfl)) (Le.mk (s' := ⟨31, [(1, .b16 x2), (7, .own 5007), (15, vL 1 eW 0#16 x1), (16, .int .i64 (((x1).length : Nat) : Int)), (17, .int .i64 (0 : Int))], [(5007, bL 28 1 eW 0#16 [])], [], 0⟩) rfl rfl ⟨.refl _, .refl _, .refl _, .refl _, .refl _, trivial⟩ ⟨⟨_, rfl, .refl _⟩, trivial⟩)) (Le.mk (s := ⟨31, [(1, .b16 x2), (7, .own 5007), (15, vL 1 eW 0#16 x1), (16, .int .i64 (((x1).length : Nat) : Int)), (17, .int .i64 (0 : Int))], [(5007, bL 28 1 eW 0#16 [])], [], 0⟩) (s' := ⟨31, [(1, .b16 x2), (7, .own 5007), (15, vL 1 eW 0#16 x1), (16, .int .i64 (((x1).length : Nat) : Int)), (17, .int .i64 (0 : Int))], [(5007, bL 28 1 eW 0#16 [])], [], 0⟩) rfl rfl ⟨.refl _, .refl _, .refl _, .refl _, .refl _, trivial⟩ ⟨⟨_, rfl, .refl _⟩, trivial⟩)) h ?_
      rintro ⟨k0, n4, l5⟩ h
      cases k0 with
      | zero => exact nomatch (show (none : Option (Int × List (BitVec 16))) = some r from h)
      | succ k0 =>
      obtain ⟨C0, hC0⟩ : ∃ C, C = f25_L0 x1 x2 K1 k0 := ⟨_, rfl⟩
      replace h := (f25_L0.eq_2 ..).symm.trans h
      try rw [← hC0] at h
      refine AWp.seq ?_
      refine AWp.regC [] [] [1, 7, 15, 16, 17, 18] [5007] ⟨31, [(1, .b16 x2), (7, .own 5007), (15, vL 1 eW 0#16 x1), (16, .int .i64 (((x1).length : Nat) : Int)), (17, .int .i64 ((n4 : Nat) : Int)), (18, .bool (decide (((n4 : Nat) : Int) < (((x1).length : Nat) : Int))))], [(5007, bL 28 1 eW 0#16 l5)], [], 0⟩ (True) Tryd_mixed (by kernel_rfl) trivial ?_
      refine thenQ_normal ?_
      refine AWp.seq ?_
      refine AWp.cond (b := (decide (((n4 : Nat) : Int) < (((x1).length : Nat) : Int)))) (by kernel_rfl) (fun hc2 => ?_) (fun hc2 => ?_)
      ·
        replace h := ite_tb hc2 h
        refine AWp.skip ?_
        refine thenQ_normal ?_
        obtain ⟨K2, hK2, h⟩ := jn_some h
        refine AWp.join (α := List (BitVec 16)) (fun (l6 : List (BitVec 16)) => ⟨31, [(1, .b16 x2), (7, .own 28), (15, vL 1 eW 0#16 x1), (16, .int .i64 (((x1).length : Nat) : Int)), (17, .int .i64 ((n4 : Nat) : Int))], [(28, bL 28 1 eW 0#16 l6)], [], 0⟩) (fun x => K2 x = some r) ?_ ?_
        ·
          refine AWp.block ?_
          refine AWp.seq ?_
          obtain ⟨ob0p, h⟩ := chk_some h
          have ob0 : 0 ≤ ((n4 : Nat) : Int) ∧ ((n4 : Nat) : Int) < (((x1).length : Nat) : Int) := ⟨by omega, ob0p⟩
          refine AWp.regC [] [] [1, 7, 9, 15, 16, 17] [5007] ⟨31, [(1, .b16 x2), (7, .own 5007), (9, .b16 (x1.getD n4 0#16)), (15, vL 1 eW 0#16 x1), (16, .int .i64 (((x1).length : Nat) : Int)), (17, .int .i64 ((n4 : Nat) : Int))], [(5007, bL 28 1 eW 0#16 l5)], [], 0⟩ ((0 ≤ ((n4 : Nat) : Int) ∧ ((n4 : Nat) : Int) < (((x1).length : Nat) : Int)) ∧ True) Tryd_mixed (by kernel_rfl) ⟨ob0, trivial⟩ ?_
          refine thenQ_normal ?_
          refine AWp.seq ?_
          refine AWp.regC [] [] [1, 7, 9, 15, 16, 17, 24] [5007] ⟨31, [(1, .b16 x2), (7, .own 5007), (9, .b16 (x1.getD n4 0#16)), (15, vL 1 eW 0#16 x1), (16, .int .i64 (((x1).length : Nat) : Int)), (17, .int .i64 ((n4 : Nat) : Int)), (24, .bool (((x1.getD n4 0#16) &&& x2) == (BitVec.ofInt 16 0)))], [(5007, bL 28 1 eW 0#16 l5)], [], 0⟩ (True) Tryd_mixed (by kernel_rfl) trivial ?_
          refine thenQ_normal ?_
          refine AWp.cond (b := (((x1.getD n4 0#16) &&& x2) == (BitVec.ofInt 16 0))) (by kernel_rfl) (fun hc3 => ?_) (fun hc3 => ?_)
          ·
            replace h := ite_tb hc3 h
            obtain ⟨ob1, h⟩ := chk_some h
            refine AWp.regC [] [] [1, 7, 15, 16, 17] [5007] ⟨31, [(1, .b16 x2), (7, .own 5007), (15, vL 1 eW 0#16 x1), (16, .int .i64 (((x1).length : Nat) : Int)), (17, .int .i64 ((n4 : Nat) : Int))], [(5007, .rows 28 1 ((l5).length + 1) (appF (l5).length (encF eW 0#16 l5) (lstF 1 [.b16 (x1.getD n4 0#16)])))], [], 0⟩ ((((l5).length + 1) * 2 ≤ 140737488355328) ∧ True) Tryd_mixed (by kernel_rfl) ⟨ob1, trivial⟩ ?_
            refine blockQ_normal ?_
            exact joinQ_normal ((l5 ++ [(x1.getD n4 0#16)])) (Le.trans (Le.mk (s := ⟨31, [(1, .b16 x2), (7, .own 5007), (15, vL 1 eW 0#16 x1), (16, .int .i64 (((x1).length : Nat) : Int)), (17, .int .i64 ((n4 : Nat) : Int))], [(5007, .rows 28 1 ((l5).length + 1) (appF (l5).length (encF eW 0#16 l5) (lstF 1 [.b16 (x1.getD n4 0#16)])))], [], 0⟩) (s' := ⟨31, [(1, .b16 x2), (7, .own 5007), (15, vL 1 eW 0#16 x1), (16, .int .i64 (((x1).length : Nat) : Int)), (17, .int .i64 ((n4 : Nat) : Int))], [(5007, bL 28 1 eW 0#16 (l5 ++ [(x1.getD n4 0#16)]))], [], 0⟩) rfl rfl ⟨.refl _, .refl _, .refl _, .refl _, .refl _, trivial⟩ ⟨⟨_, rfl, (BLe.of (RL.app (RL.self _) (RL.lst (enc := eW) [(x1.getD n4 0#16)] rfl rfl (fun _ => rfl))))⟩, trivial⟩) (Le.trans (Le.trans (Le.ren (s := ⟨31, [(1, .b16 x2), (7, .own 5007), (15, vL 1 eW 0#16 x1), (16, .int .i64 (((x1).length : Nat) : Int)), (17, .int .i64 ((n4 : Nat) : Int))], [(5007, bL 28 1 eW 0#16 (l5 ++ [(x1.getD n4 0#16)]))], [], 0⟩) (swapN 5007 28) (swapN_inv 5007 28) rfl) (Le.mk (s' := ⟨31, [(1, .b16 x2), (7, .own 28), (15, vL 1 eW 0#16 x1), (16, .int .i64 (((x1).length : Nat) : Int)), (17, .int .i64 ((n4 : Nat) : Int))], [(28, bL 28 1 eW 0#16 (l5 ++ [(x1.getD n4 0#16)]))], [], 0⟩) rfl rfl ⟨.refl _, .refl _, .refl _, .refl _, .refl _, trivial⟩ ⟨⟨_, rfl, .refl _⟩, trivial⟩)) (Le.mk (s := ⟨31, [(1, .b16 x2), (7, .own 28), (15, vL 1 eW 0#16 x1), (16, .int .i64 (((x1).length : Nat) : Int)), (17, .int .i64 ((n4 : Nat) : Int))], [(28, bL 28 1 eW 0#16 (l5 ++ [(x1.getD n4 0#16)]))], [], 0⟩) (s' := ⟨31, [(1, .b16 x2), (7, .own 28), (15, vL 1 eW 0#16 x1), (16, .int .i64 (((x1).length : Nat) : Int)), (17, .int .i64 ((n4 : Nat) : Int))], [(28, bL 28 1 eW 0#16 (l5 ++ [(x1.getD n4 0#16)]))], [], 0⟩) rfl rfl ⟨.refl _, .refl _, .refl _, .refl _, .refl _, trivial⟩ ⟨⟨_, rfl, .refl _⟩, trivial⟩))) h
          ·
            replace h := ite_fb hc3 h
            refine AWp.skip ?_
            refine blockQ_normal ?_
            exact joinQ_normal (l5) (Le.trans (Le.trans (Le.ren (s := ⟨31, [(1, .b16 x2), (7, .own 5007), (9, .b16 (x1.getD n4 0#16)), (15, vL 1 eW 0#16 x1), (16, .int .i64 (((x1).length : Nat) : Int)), (17, .int .i64 ((n4 : Nat) : Int)), (24, .bool (((x1.getD n4 0#16) &&& x2) == (BitVec.ofInt 16 0)))], [(5007, bL 28 1 eW 0#16 l5)], [], 0⟩) (swapN 5007 28) (swapN_inv 5007 28) rfl) (Le.mk (s' := ⟨31, [(1, .b16 x2), (7, .own 28), (9, .b16 (x1.getD n4 0#16)), (15, vL 1 eW 0#16 x1), (16, .int .i64 (((x1).length : Nat) : Int)), (17, .int .i64 ((n4 : Nat) : Int)), (24, .bool (((x1.getD n4 0#16) &&& x2) == (BitVec.ofInt 16 0)))], [(28, bL 28 1 eW 0#16 l5)], [], 0⟩) rfl rfl ⟨.refl _, .refl _, .refl _, .refl _, .refl _, .refl _, .refl _, trivial⟩ ⟨⟨_, rfl, .refl _⟩, trivial⟩)) (Le.mk (s := ⟨31, [(1, .b16 x2), (7, .own 28), (9, .b16 (x1.getD n4 0#16)), (15, vL 1 eW 0#16 x1), (16, .int .i64 (((x1).length : Nat) : Int)), (17, .int .i64 ((n4 : Nat) : Int)), (24, .bool (((x1.getD n4 0#16) &&& x2) == (BitVec.ofInt 16 0)))], [(28, bL 28 1 eW 0#16 l5)], [], 0⟩) (s' := ⟨31, [(1, .b16 x2), (7, .own 28), (15, vL 1 eW 0#16 x1), (16, .int .i64 (((x1).length : Nat) : Int)), (17, .int .i64 ((n4 : Nat) : Int))], [(28, bL 28 1 eW 0#16 l5)], [], 0⟩) rfl rfl ⟨.refl _, .refl _, .refl _, .refl _, .refl _, trivial⟩ ⟨⟨_, rfl, .refl _⟩, trivial⟩)) h
        ·
          rintro l6 h
          replace h := (congrFun hK2 _).symm.trans h
          obtain ⟨ob2p, h⟩ := chk_some h
          have ob2 : -9223372036854775808 ≤ (((n4 : Nat) : Int) + (1 : Int)) ∧ (((n4 : Nat) : Int) + (1 : Int)) ≤ 9223372036854775807 := ⟨by omega, ob2p⟩
          refine AWp.regC [] [] [1, 7, 15, 16, 17] [28] ⟨31, [(1, .b16 x2), (7, .own 28), (15, vL 1 eW 0#16 x1), (16, .int .i64 (((x1).length : Nat) : Int)), (17, .int .i64 (((n4 + 1) : Nat) : Int))], [(28, bL 28 1 eW 0#16 l6)], [], 0⟩ ((-9223372036854775808 ≤ (((n4 : Nat) : Int) + (1 : Int)) ∧ (((n4 : Nat) : Int) + (1 : Int)) ≤ 9223372036854775807) ∧ True) Tryd_mixed (by kernel_rfl) ⟨ob2, trivial⟩ ?_
          rw [hC0] at h
          exact loopQ_normal (_, (n4 + 1), l6) (Le.trans (Le.trans (Le.ren (s := ⟨31, [(1, .b16 x2), (7, .own 28), (15, vL 1 eW 0#16 x1), (16, .int .i64 (((x1).length : Nat) : Int)), (17, .int .i64 (((n4 + 1) : Nat) : Int))], [(28, bL 28 1 eW 0#16 l6)], [], 0⟩) (swapN 28 5007) (swapN_inv 28 5007) rfl) (Le.mk (s' := ⟨31, [(1, .b16 x2), (7, .own 5007), (15, vL 1 eW 0#16 x1), (16, .int .i64 (((x1).length : Nat) : Int)), (17, .int .i64 (((n4 + 1) : Nat) : Int))], [(5007, bL 28 1 eW 0#16 l6)], [], 0⟩) rfl rfl ⟨.refl _, .refl _, .refl _, .refl _, .refl _, trivial⟩ ⟨⟨_, rfl, .refl _⟩, trivial⟩)) (Le.mk (s := ⟨31, [(1, .b16 x2), (7, .own 5007), (15, vL 1 eW 0#16 x1), (16, .int .i64 (((x1).length : Nat) : Int)), (17, .int .i64 (((n4 + 1) : Nat) : Int))], [(5007, bL 28 1 eW 0#16 l6)], [], 0⟩) (s' := ⟨31, [(1, .b16 x2), (7, .own 5007), (15, vL 1 eW 0#16 x1), (16, .int .i64 (((x1).length : Nat) : Int)), (17, .int .i64 (((n4 + 1) : Nat) : Int))], [(5007, bL 28 1 eW 0#16 l6)], [], 0⟩) rfl rfl ⟨.refl _, .refl _, .refl _, .refl _, .refl _, trivial⟩ ⟨⟨_, rfl, .refl _⟩, trivial⟩)) h (Nat.lt_succ_self _)
      ·
        replace h := ite_fb hc2 h
        refine AWp.exit ?_
        refine thenQ_exit ?_
        refine thenQ_exit ?_
        refine blockQ_same ?_
        exact joinQ_normal (l5) (Le.mk (s := ⟨31, [(1, .b16 x2), (7, .own 5007), (15, vL 1 eW 0#16 x1), (16, .int .i64 (((x1).length : Nat) : Int)), (17, .int .i64 ((n4 : Nat) : Int)), (18, .bool (decide (((n4 : Nat) : Int) < (((x1).length : Nat) : Int))))], [(5007, bL 28 1 eW 0#16 l5)], [], 0⟩) (s' := ⟨31, [(7, .own 5007)], [(5007, bL 28 1 eW 0#16 l5)], [], 0⟩) rfl rfl ⟨.refl _, trivial⟩ ⟨⟨_, rfl, .refl _⟩, trivial⟩) h
    ·
      rintro l7 h
      replace h := (congrFun hK1 _).symm.trans h
      refine AWp.seq ?_
      refine AWp.regC [] [] [4, 5] [5007] ⟨31, [(4, .own 5007), (5, .int .i64 (0 : Int))], [(5007, bL 28 1 eW 0#16 l7)], [], 0⟩ (True) Tryd_mixed (by kernel_rfl) trivial ?_
      refine thenQ_normal ?_
      refine AWp.le (Le.trans (Le.ren (s := ⟨31, [(4, .own 5007), (5, .int .i64 (0 : Int))], [(5007, bL 28 1 eW 0#16 l7)], [], 0⟩) (swapN 5007 3000) (swapN_inv 5007 3000) rfl) (Le.mk (s' := ⟨31, [(4, .own 3000), (5, .int .i64 (0 : Int))], [(3000, bL 28 1 eW 0#16 l7)], [], 0⟩) rfl rfl ⟨.refl _, .refl _, trivial⟩ ⟨⟨_, rfl, .refl _⟩, trivial⟩)) ?_
      have hret := Option.some.inj h
      subst hret
      refine AWp.le (Le.mk (s := ⟨31, [(4, .own 3000), (5, .int .i64 (0 : Int))], [(3000, bL 28 1 eW 0#16 l7)], [], 0⟩) (s' := ⟨31, [(4, .own 3000), (5, .int .i64 (0 : Int))], [(3000, bL 28 1 eW 0#16 l7)], [], 0⟩) rfl rfl ⟨.refl _, .refl _, trivial⟩ ⟨⟨_, rfl, .refl _⟩, trivial⟩) ?_
      refine AWp.ret ?_
      exact bodyQ_ret _ rfl ⟨rfl, rfl⟩ rfl
def f66 (x1 : BitVec 16) : Option Bool :=
  some (!((x1 &&& (BitVec.ofInt 16 61440)) == (BitVec.ofInt 16 0)))
set_option maxRecDepth 100000 in
theorem f66_ok  (x1 : BitVec 16) (r : Bool) (h : f66 x1 = some r)  : Spec1 Tryd.prog 66 [] [] [] [.b16 x1] (.bool r) [] := by
  unfold f66 at h
  refine Spec1.body 0 _ _ Tryd.func66 rfl Tryd.ntmps66 rfl rfl ?_
  refine AWp.seq ?_
  refine AWp.regC [] [] [0] [] ⟨6, [(0, .b16 x1)], [], [], 0⟩ (True) Tryd_mixed (by kernel_rfl) trivial ?_
  refine thenQ_normal ?_
  refine AWp.seq ?_
  refine AWp.regC [] [] [2] [] ⟨6, [(2, .bool (!((x1 &&& (BitVec.ofInt 16 61440)) == (BitVec.ofInt 16 0))))], [], [], 0⟩ (True) Tryd_mixed (by kernel_rfl) trivial ?_
  refine thenQ_normal ?_
  have hret := Option.some.inj h
  subst hret
  refine AWp.le (Le.mk (s := ⟨6, [(2, .bool (!((x1 &&& (BitVec.ofInt 16 61440)) == (BitVec.ofInt 16 0))))], [], [], 0⟩) (s' := ⟨6, [(2, .bool (!((x1 &&& (BitVec.ofInt 16 61440)) == (BitVec.ofInt 16 0))))], [], [], 0⟩) rfl rfl ⟨.refl _, trivial⟩ trivial) ?_
  refine AWp.ret ?_
  exact bodyQ_ret _ rfl ⟨rfl, rfl⟩ rfl
def f73a_L0 (x1 : List (BitVec 16)) (K1 : Unit → Option Int) : Nat → Nat → Option Int
  | 0, _ => none
  | k + 1, n2 =>
    if (decide (((n2 : Nat) : Int) < (((x1).length : Nat) : Int))) then (
    (f66 (x1.getD n2 0#16)).bind fun (r3 : Bool) =>
    chk (((n2 : Nat) : Int) < (((x1).length : Nat) : Int)) <|
    if r3 then (
    some ((n2 : Nat) : Int)
    ) else (
    chk ((((n2 : Nat) : Int) + (1 : Int)) ≤ 9223372036854775807) <|
    (f73a_L0 x1 K1 k) (n2 + 1)
    )
    ) else (
    K1 ()
    )
def f73a (x1 : List (BitVec 16)) : Option Int :=
  jn (fun (_ : Unit) =>
  some (-1 : Int)
  ) fun (K1 : Unit → Option Int) =>
  f73a_L0 x1 K1 FUEL 0
set_option maxRecDepth 100000 in
theorem f73a_ok  (x1 : List (BitVec 16)) (r : Int) (h : f73a x1 = some r)  : Spec1 Tryd.prog 73 [] [] [] [vL 1 eW 0#16 x1, .fn (.func 66) []] (.int .i64 r) [] := by
  unfold f73a at h
  refine Spec1.body 0 _ _ Tryd.func73 rfl Tryd.ntmps73 rfl rfl ?_
  refine AWp.seq ?_
  refine AWp.regC [] [] [0, 1] [] ⟨19, [(0, vL 1 eW 0#16 x1), (1, .fn (.func 66) [])], [], [], 0⟩ (True) Tryd_mixed (by kernel_rfl) trivial ?_
  refine thenQ_normal ?_
  obtain ⟨K1, hK1, h⟩ := jn_some h
  refine AWp.join (α := Unit) (fun (x : Unit) => match x with | () => ⟨19, [], [], [], 0⟩) (fun x => K1 x = some r) ?_ ?_
  ·
    refine AWp.seq ?_
    refine AWp.regC [] [] [0, 1, 7, 8] [] ⟨19, [(0, vL 1 eW 0#16 x1), (1, .fn (.func 66) []), (7, .int .i64 (((x1).length : Nat) : Int)), (8, .int .i64 (0 : Int))], [], [], 0⟩ (True) Tryd_mixed (by kernel_rfl) trivial ?_
    refine thenQ_normal ?_
    refine AWp.block ?_
    refine AWp.loopL (α := Nat × Nat) (fun x => match x with | (_, n2) => ⟨19, [(0, vL 1 eW 0#16 x1), (1, .fn (.func 66) []), (7, .int .i64 (((x1).length : Nat) : Int)), (8, .int .i64 ((n2 : Nat) : Int))], [], [], 0⟩) (fun x => f73a_L0 x1 K1 x.1 x.2 = some r) (fun x => x.1) (FUEL, 0) (Le.mk (s := ⟨19, [(0, vL 1 eW 0#16 x1), (1, .fn (.func 66) []), (7, .int .i64 (((x1).length : Nat) : Int)), (8, .int .i64 (0 : Int))], [], [], 0⟩) (s' := ⟨19, [(0, vL 1 eW 0#16 x1), (1, .fn (.func 66) []), (7, .int .i64 (((x1).length : Nat) : Int)), (8, .int .i64 (0 : Int))], [], [], 0⟩) rfl rfl ⟨.refl _, .refl _, .refl _, .refl _, trivial⟩ trivial) h ?_
    rintro ⟨k0, n2⟩ h
    cases k0 with
    | zero => exact nomatch (show (none : Option Int) = some r from h)
    | succ k0 =>
    obtain ⟨C0, hC0⟩ : ∃ C, C = f73a_L0 x1 K1 k0 := ⟨_, rfl⟩
    replace h := (f73a_L0.eq_2 ..).symm.trans h
    try rw [← hC0] at h
    refine AWp.seq ?_
    refine AWp.regC [] [] [0, 1, 7, 8, 9] [] ⟨19, [(0, vL 1 eW 0#16 x1), (1, .fn (.func 66) []), (7, .int .i64 (((x1).length : Nat) : Int)), (8, .int .i64 ((n2 : Nat) : Int)), (9, .bool (decide (((n2 : Nat) : Int) < (((x1).length : Nat) : Int))))], [], [], 0⟩ (True) Tryd_mixed (by kernel_rfl) trivial ?_
    refine thenQ_normal ?_
    refine AWp.seq ?_
    refine AWp.cond (b := (decide (((n2 : Nat) : Int) < (((x1).length : Nat) : Int)))) (by kernel_rfl) (fun hc1 => ?_) (fun hc1 => ?_)
    ·
      replace h := ite_tb hc1 h
      refine AWp.skip ?_
      refine thenQ_normal ?_
      refine AWp.seq ?_
      refine AWp.block ?_
      refine AWp.seq ?_
      refine AWp.regC [] [] [0, 1, 5, 7, 8] [] ⟨19, [(0, vL 1 eW 0#16 x1), (1, .fn (.func 66) []), (5, .int .i64 ((n2 : Nat) : Int)), (7, .int .i64 (((x1).length : Nat) : Int)), (8, .int .i64 ((n2 : Nat) : Int))], [], [], 0⟩ (True) Tryd_mixed (by kernel_rfl) trivial ?_
      refine thenQ_normal ?_
      refine AWp.seq ?_
      obtain ⟨r3, hr3, h⟩ := bind_ok h
      obtain ⟨ob0p, h⟩ := chk_some h
      have ob0 : 0 ≤ ((n2 : Nat) : Int) ∧ ((n2 : Nat) : Int) < (((x1).length : Nat) : Int) := ⟨by omega, ob0p⟩
      refine AWp.regC [] [(5, ⟨[.b16 (x1.getD n2 0#16)], [], [], [], .bool r3, [], [], []⟩)] [0, 1, 5, 7, 8, 16] [] ⟨19, [(0, vL 1 eW 0#16 x1), (1, .fn (.func 66) []), (5, .int .i64 ((n2 : Nat) : Int)), (7, .int .i64 (((x1).length : Nat) : Int)), (8, .int .i64 ((n2 : Nat) : Int)), (16, .bool r3)], [], [], 0⟩ ((0 ≤ ((n2 : Nat) : Int) ∧ ((n2 : Nat) : Int) < (((x1).length : Nat) : Int)) ∧ (callP Tryd.prog true 66 [] [] [] [] [] [.b16 (x1.getD n2 0#16)] [.b16 (x1.getD n2 0#16)] (.bool r3) []) ∧ True) Tryd_mixed (by kernel_rfl) ⟨ob0, ⟨fun _ => (f66_ok (x1.getD n2 0#16) r3 hr3), fun _ => ⟨.refl _, trivial⟩, .inl rfl⟩, trivial⟩ ?_
      refine thenQ_normal ?_
      refine AWp.cond (b := r3) (by kernel_rfl) (fun hc2 => ?_) (fun hc2 => ?_)
      ·
        replace h := ite_tb hc2 h
        refine AWp.seq ?_
        refine AWp.regC [] [] [4] [] ⟨19, [(4, .int .i64 ((n2 : Nat) : Int))], [], [], 0⟩ (True) Tryd_mixed (by kernel_rfl) trivial ?_
        refine thenQ_normal ?_
        have hret := Option.some.inj h
        subst hret
        refine AWp.le (Le.mk (s := ⟨19, [(4, .int .i64 ((n2 : Nat) : Int))], [], [], 0⟩) (s' := ⟨19, [(4, .int .i64 ((n2 : Nat) : Int))], [], [], 0⟩) rfl rfl ⟨.refl _, trivial⟩ trivial) ?_
        refine AWp.ret ?_
        refine blockQ_ret ?_
        refine thenQ_ret ?_
        refine thenQ_ret ?_
        refine blockQ_ret ?_
        refine joinQ_ret ?_
        exact bodyQ_ret _ rfl ⟨rfl, rfl⟩ rfl
      ·
        replace h := ite_fb hc2 h
        refine AWp.skip ?_
        refine blockQ_normal ?_
        refine thenQ_normal ?_
        obtain ⟨ob1p, h⟩ := chk_some h
        have ob1 : -9223372036854775808 ≤ (((n2 : Nat) : Int) + (1 : Int)) ∧ (((n2 : Nat) : Int) + (1 : Int)) ≤ 9223372036854775807 := ⟨by omega, ob1p⟩
        refine AWp.regC [] [] [0, 1, 7, 8] [] ⟨19, [(0, vL 1 eW 0#16 x1), (1, .fn (.func 66) []), (7, .int .i64 (((x1).length : Nat) : Int)), (8, .int .i64 (((n2 + 1) : Nat) : Int))], [], [], 0⟩ ((-9223372036854775808 ≤ (((n2 : Nat) : Int) + (1 : Int)) ∧ (((n2 : Nat) : Int) + (1 : Int)) ≤ 9223372036854775807) ∧ True) Tryd_mixed (by kernel_rfl) ⟨ob1, trivial⟩ ?_
        rw [hC0] at h
        exact loopQ_normal (_, (n2 + 1)) (Le.mk (s := ⟨19, [(0, vL 1 eW 0#16 x1), (1, .fn (.func 66) []), (7, .int .i64 (((x1).length : Nat) : Int)), (8, .int .i64 (((n2 + 1) : Nat) : Int))], [], [], 0⟩) (s' := ⟨19, [(0, vL 1 eW 0#16 x1), (1, .fn (.func 66) []), (7, .int .i64 (((x1).length : Nat) : Int)), (8, .int .i64 (((n2 + 1) : Nat) : Int))], [], [], 0⟩) rfl rfl ⟨.refl _, .refl _, .refl _, .refl _, trivial⟩ trivial) h (Nat.lt_succ_self _)
    ·
      replace h := ite_fb hc1 h
      refine AWp.exit ?_
      refine thenQ_exit ?_
      refine thenQ_exit ?_
      refine blockQ_same ?_
      exact joinQ_normal () (Le.mk (s := ⟨19, [(0, vL 1 eW 0#16 x1), (1, .fn (.func 66) []), (7, .int .i64 (((x1).length : Nat) : Int)), (8, .int .i64 ((n2 : Nat) : Int)), (9, .bool (decide (((n2 : Nat) : Int) < (((x1).length : Nat) : Int))))], [], [], 0⟩) (s' := ⟨19, [], [], [], 0⟩) rfl rfl trivial trivial) h
  ·
    rintro ⟨⟩ h
    replace h := (congrFun hK1 _).symm.trans h
    refine AWp.seq ?_
    refine AWp.regC [] [] [4] [] ⟨19, [(4, .int .i64 (-1 : Int))], [], [], 0⟩ (True) Tryd_mixed (by kernel_rfl) trivial ?_
    refine thenQ_normal ?_
    have hret := Option.some.inj h
    subst hret
    refine AWp.le (Le.mk (s := ⟨19, [(4, .int .i64 (-1 : Int))], [], [], 0⟩) (s' := ⟨19, [(4, .int .i64 (-1 : Int))], [], [], 0⟩) rfl rfl ⟨.refl _, trivial⟩ trivial) ?_
    refine AWp.ret ?_
    exact bodyQ_ret _ rfl ⟨rfl, rfl⟩ rfl
def f53a (x1 : List (BitVec 16)) : Option Bool :=
  (f73a x1).bind fun (r2 : Int) =>
  some (decide (r2 ≥ (0 : Int)))
set_option maxRecDepth 100000 in
theorem f53a_ok  (x1 : List (BitVec 16)) (r : Bool) (h : f53a x1 = some r)  : Spec1 Tryd.prog 53 [] [] [] [vL 1 eW 0#16 x1, .fn (.func 66) []] (.bool r) [] := by
  unfold f53a at h
  refine Spec1.body 0 _ _ Tryd.func53 rfl Tryd.ntmps53 rfl rfl ?_
  refine AWp.seq ?_
  refine AWp.regC [] [] [0, 1] [] ⟨9, [(0, vL 1 eW 0#16 x1), (1, .fn (.func 66) [])], [], [], 0⟩ (True) Tryd_mixed (by kernel_rfl) trivial ?_
  refine thenQ_normal ?_
  refine AWp.seq ?_
  obtain ⟨r2, hr2, h⟩ := bind_ok h
  refine AWp.regC [] [(2, ⟨[vL 1 eW 0#16 x1, .fn (.func 66) []], [], [], [], .int .i64 r2, [], [], []⟩)] [4] [] ⟨9, [(4, .bool (decide (r2 ≥ (0 : Int))))], [], [], 0⟩ ((callP Tryd.prog true 73 [] [] [] [] [] [vL 1 eW 0#16 x1, .fn (.func 66) []] [vL 1 eW 0#16 x1, .fn (.func 66) []] (.int .i64 r2) []) ∧ True) Tryd_mixed (by kernel_rfl) ⟨⟨fun _ => (f73a_ok x1 r2 hr2), fun _ => ⟨.refl _, .refl _, trivial⟩, .inl rfl⟩, trivial⟩ ?_
  refine thenQ_normal ?_
  have hret := Option.some.inj h
  subst hret
  refine AWp.le (Le.mk (s := ⟨9, [(4, .bool (decide (r2 ≥ (0 : Int))))], [], [], 0⟩) (s' := ⟨9, [(4, .bool (decide (r2 ≥ (0 : Int))))], [], [], 0⟩) rfl rfl ⟨.refl _, trivial⟩ trivial) ?_
  refine AWp.ret ?_
  exact bodyQ_ret _ rfl ⟨rfl, rfl⟩ rfl
def f42 (x1 : List (BitVec 16)) : Option (List (BitVec 16) × Int) :=
  (f53a x1).bind fun (r2 : Bool) =>
  if r2 then (
  some ([], (7 : Int))
  ) else (
  (f43 x1).bind fun (r3 : List (BitVec 16)) =>
  (f49 r3).bind fun (r4 : List (BitVec 16) × Int) =>
  some (r4.1, r4.2)
  )
set_option maxRecDepth 100000 in
theorem f42_ok  (x1 : List (BitVec 16)) (r : List (BitVec 16) × Int) (h : f42 x1 = some r)  : Spec1 Tryd.prog 42 [] [] [] [vL 1 eW 0#16 x1, .fn (.func 43) []] (.tup [vL 1 eW 0#16 r.1, .int .i64 r.2]) [] := by
  unfold f42 at h
  refine Spec1.body 0 _ _ Tryd.func42 rfl Tryd.ntmps42 rfl rfl ?_
  refine AWp.seq ?_
  refine AWp.regC [] [] [0, 1] [] ⟨14, [(0, vL 1 eW 0#16 x1), (1, .fn (.func 43) [])], [], [], 0⟩ (True) Tryd_mixed (by kernel_rfl) trivial ?_
  refine thenQ_normal ?_
  refine AWp.seq ?_
  refine AWp.seq ?_
  obtain ⟨r2, hr2, h⟩ := bind_ok h
  refine AWp.regC [] [(1, ⟨[vL 1 eW 0#16 x1, .fn (.func 66) []], [], [], [], .bool r2, [], [], []⟩)] [0, 1, 7] [] ⟨14, [(0, vL 1 eW 0#16 x1), (1, .fn (.func 43) []), (7, .bool r2)], [], [], 0⟩ ((callP Tryd.prog true 53 [] [] [] [] [] [vL 1 eW 0#16 x1, .fn (.func 66) []] [vL 1 eW 0#16 x1, .fn (.func 66) []] (.bool r2) []) ∧ True) Tryd_mixed (by kernel_rfl) ⟨⟨fun _ => (f53a_ok x1 r2 hr2), fun _ => ⟨.refl _, .refl _, trivial⟩, .inl rfl⟩, trivial⟩ ?_
  refine thenQ_normal ?_
  refine AWp.cond (b := r2) (by kernel_rfl) (fun hc1 => ?_) (fun hc1 => ?_)
  ·
    replace h := ite_tb hc1 h
    refine AWp.seq ?_
    refine AWp.regC [] [] [4, 5] [] ⟨14, [(4, .nils), (5, .int .i64 (7 : Int))], [], [], 0⟩ (True) Tryd_mixed (by kernel_rfl) trivial ?_
    refine thenQ_normal ?_
    have hret := Option.some.inj h
    subst hret
    refine AWp.le (Le.mk (s := ⟨14, [(4, .nils), (5, .int .i64 (7 : Int))], [], [], 0⟩) (s' := ⟨14, [(4, vL 1 eW 0#16 []), (5, .int .i64 (7 : Int))], [], [], 0⟩) rfl rfl ⟨.nilL, .refl _, trivial⟩ trivial) ?_
    refine AWp.ret ?_
    refine thenQ_ret ?_
    exact bodyQ_ret _ rfl ⟨rfl, rfl⟩ rfl
  ·
    replace h := ite_fb hc1 h
    refine AWp.skip ?_
    refine thenQ_normal ?_
    refine AWp.seq ?_
    obtain ⟨r3, hr3, h⟩ := bind_ok h
    obtain ⟨r4, hr4, h⟩ := bind_ok h
    refine AWp.regC [] [(2, ⟨[vL 1 eW 0#16 x1], [], [], [(6001, bL 28 1 eW 0#16 r3)], .own 6001, [6001], [], []⟩), (3, ⟨[.own 6001], [6001], [], [], .tup [vL 1 eW 0#16 r4.1, .int .i64 r4.2], [], [], []⟩)] [4, 5] [] ⟨14, [(4, vL 1 eW 0#16 r4.1), (5, .int .i64 r4.2)], [], [], 0⟩ ((callP Tryd.prog true 43 [] [] [] [] [] [vL 1 eW 0#16 x1] [vL 1 eW 0#16 x1] (.own 6001) [(6001, bL 28 1 eW 0#16 r3)]) ∧ (callP Tryd.prog true 49 [] [] [(6001, bL 28 1 eW 0#16 r3)] [] [] [.own 6001] [.own 6001] (.tup [vL 1 eW 0#16 r4.1, .int .i64 r4.2]) []) ∧ True) Tryd_mixed (by kernel_rfl) ⟨⟨fun _ => (Spec1.ren (swapN 3000 6001) (swapN_inv 3000 6001) rfl (f43_ok x1 r3 hr3)), fun _ => ⟨.refl _, trivial⟩, .inl rfl⟩, ⟨fun _ => (Spec1.pre (f49_ok r3 r4 hr4) rfl rfl rfl (Le.trans (Le.freeze (s := ⟨1, [(0, .own 6001)], [(6001, bL 28 1 eW 0#16 r3)], [], 0⟩) 6001 rfl rfl) (Le.mk (s' := ⟨1, [(0, vL 1 eW 0#16 r3)], [], [], 0⟩) rfl rfl ⟨.refl _, trivial⟩ trivial))), fun _ => ⟨.refl _, trivial⟩, .inl rfl⟩, trivial⟩ ?_
    refine thenQ_normal ?_
    have hret := Option.some.inj h
    subst hret
    refine AWp.le (Le.mk (s := ⟨14, [(4, vL 1 eW 0#16 r4.1), (5, .int .i64 r4.2)], [], [], 0⟩) (s' := ⟨14, [(4, vL 1 eW 0#16 r4.1), (5, .int .i64 r4.2)], [], [], 0⟩) rfl rfl ⟨.refl _, .refl _, trivial⟩ trivial) ?_
    refine AWp.ret ?_
    exact bodyQ_ret _ rfl ⟨rfl, rfl⟩ rfl
def f14 (x1 : List (BitVec 16)) : Option (List (BitVec 16) × Int) :=
  (f42 x1).bind fun (r2 : List (BitVec 16) × Int) =>
  some (r2.1, r2.2)
set_option maxRecDepth 100000 in
theorem f14_ok  (x1 : List (BitVec 16)) (r : List (BitVec 16) × Int) (h : f14 x1 = some r)  : Spec1 Tryd.prog 14 [] [] [] [vL 1 eW 0#16 x1] (.tup [vL 1 eW 0#16 r.1, .int .i64 r.2]) [] := by
  unfold f14 at h
  refine Spec1.body 0 _ _ Tryd.func14 rfl Tryd.ntmps14 rfl rfl ?_
  refine AWp.seq ?_
  refine AWp.regC [] [] [0] [] ⟨8, [(0, vL 1 eW 0#16 x1)], [], [], 0⟩ (True) Tryd_mixed (by kernel_rfl) trivial ?_
  refine thenQ_normal ?_
  refine AWp.seq ?_
  obtain ⟨r2, hr2, h⟩ := bind_ok h
  refine AWp.regC [] [(1, ⟨[vL 1 eW 0#16 x1, .fn (.func 43) []], [], [], [], .tup [vL 1 eW 0#16 r2.1, .int .i64 r2.2], [], [], []⟩)] [2, 3] [] ⟨8, [(2, vL 1 eW 0#16 r2.1), (3, .int .i64 r2.2)], [], [], 0⟩ ((callP Tryd.prog true 42 [] [] [] [] [] [vL 1 eW 0#16 x1, .fn (.func 43) []] [vL 1 eW 0#16 x1, .fn (.func 43) []] (.tup [vL 1 eW 0#16 r2.1, .int .i64 r2.2]) []) ∧ True) Tryd_mixed (by kernel_rfl) ⟨⟨fun _ => (f42_ok x1 r2 hr2), fun _ => ⟨.refl _, .refl _, trivial⟩, .inl rfl⟩, trivial⟩ ?_
  refine thenQ_normal ?_
  have hret := Option.some.inj h
  subst hret
  refine AWp.le (Le.mk (s := ⟨8, [(2, vL 1 eW 0#16 r2.1), (3, .int .i64 r2.2)], [], [], 0⟩) (s' := ⟨8, [(2, vL 1 eW 0#16 r2.1), (3, .int .i64 r2.2)], [], [], 0⟩) rfl rfl ⟨.refl _, .refl _, trivial⟩ trivial) ?_
  refine AWp.ret ?_
  exact bodyQ_ret _ rfl ⟨rfl, rfl⟩ rfl
def f69 (x1 : List (BitVec 16)) : Option (List (BitVec 16)) :=
  some x1
set_option maxRecDepth 100000 in
theorem f69_ok  (x1 : List (BitVec 16)) (r : List (BitVec 16)) (h : f69 x1 = some r)  : Spec1 Tryd.prog 69 [] [] [] [vL 1 eW 0#16 x1] (.fn (.func 86) [.ptr 3500 0]) [(3500, .cells 22 [vL 1 eW 0#16 r])] := by
  unfold f69 at h
  refine Spec1.body 0 _ _ Tryd.func69 rfl Tryd.ntmps69 rfl rfl ?_
  refine AWp.seq ?_
  refine AWp.regC [] [] [1] [1] ⟨4, [(1, .ptr 1 0)], [(1, .cells 22 [vL 1 eW 0#16 x1])], [], 0⟩ (True) Tryd_mixed (by kernel_rfl) trivial ?_
  refine thenQ_normal ?_
  refine AWp.seq ?_
  refine AWp.regC [] [] [2] [1] ⟨4, [(2, .fn (.func 86) [.ptr 1 0])], [(1, .cells 22 [vL 1 eW 0#16 x1])], [], 0⟩ (True) Tryd_mixed (by kernel_rfl) trivial ?_
  refine thenQ_normal ?_
  refine AWp.le (Le.trans (Le.ren (s := ⟨4, [(2, .fn (.func 86) [.ptr 1 0])], [(1, .cells 22 [vL 1 eW 0#16 x1])], [], 0⟩) (swapN 1 3500) (swapN_inv 1 3500) rfl) (Le.mk (s' := ⟨4, [(2, .fn (.func 86) [.ptr 3500 0])], [(3500, .cells 22 [vL 1 eW 0#16 x1])], [], 0⟩) rfl rfl ⟨.refl _, trivial⟩ ⟨⟨_, rfl, .refl _⟩, trivial⟩)) ?_
  have hret := Option.some.inj h
  subst hret
  refine AWp.le (Le.mk (s := ⟨4, [(2, .fn (.func 86) [.ptr 3500 0])], [(3500, .cells 22 [vL 1 eW 0#16 x1])], [], 0⟩) (s' := ⟨4, [(2, .fn (.func 86) [.ptr 3500 0])], [(3500, .cells 22 [vL 1 eW 0#16 x1])], [], 0⟩) rfl rfl ⟨.refl _, trivial⟩ ⟨⟨_, rfl, .refl _⟩, trivial⟩) ?_
  refine AWp.ret ?_
  exact bodyQ_ret _ rfl ⟨rfl, rfl⟩ rfl
def f70 (x1 : BitVec 16) (x2 : BitVec 16) : Option (Bool × BitVec 16) :=
  (f55 x1 x2).bind fun (r3 : Bool) =>
  some (r3, x2)
set_option maxRecDepth 100000 in
theorem f70_ok  (x1 : BitVec 16) (x2 : BitVec 16) (r : Bool × BitVec 16) (h : f70 x1 x2 = some r)  : Spec1 Tryd.prog 70 [] [2000] [(2000, .cells 28 [.b16 x2])] [.b16 x1, .ptr 2000 0] (.bool r.1) [(2000, .cells 28 [.b16 r.2])] := by
  unfold f70 at h
  refine Spec1.body 0 _ _ Tryd.func70 rfl Tryd.ntmps70 rfl rfl ?_
  refine AWp.seq ?_
  refine AWp.regC [] [] [0, 1] [2000] ⟨7, [(0, .b16 x1), (1, .ptr 2000 0)], [(2000, .cells 28 [.b16 x2])], [2000], 0⟩ (True) Tryd_mixed (by kernel_rfl) trivial ?_
  refine thenQ_normal ?_
  refine AWp.seq ?_
  obtain ⟨r3, hr3, h⟩ := bind_ok h
  refine AWp.regC [] [(2, ⟨[.b16 x1, .b16 x2], [], [], [], .bool r3, [], [], []⟩)] [3] [2000] ⟨7, [(3, .bool r3)], [(2000, .cells 28 [.b16 x2])], [2000], 0⟩ ((callP Tryd.prog true 55 [] [] [] [] [] [.b16 x1, .b16 x2] [.b16 x1, .b16 x2] (.bool r3) []) ∧ True) Tryd_mixed (by kernel_rfl) ⟨⟨fun _ => (f55_ok x1 x2 r3 hr3), fun _ => ⟨.refl _, .refl _, trivial⟩, .inl rfl⟩, trivial⟩ ?_
  refine thenQ_normal ?_
  have hret := Option.some.inj h
  subst hret
  refine AWp.le (Le.mk (s := ⟨7, [(3, .bool r3)], [(2000, .cells 28 [.b16 x2])], [2000], 0⟩) (s' := ⟨7, [(3, .bool r3)], [(2000, .cells 28 [.b16 x2])], [2000], 0⟩) rfl rfl ⟨.refl _, trivial⟩ ⟨⟨_, rfl, .refl _⟩, trivial⟩) ?_
  refine AWp.ret ?_
  exact bodyQ_ret _ rfl ⟨rfl, rfl⟩ rfl
def f73b_L0 (x1 : List (BitVec 16)) (K1 : (BitVec 16) → Option (Int × BitVec 16)) : Nat → (Nat × BitVec 16) → Option (Int × BitVec 16)
  | 0, _ => none
  | k + 1, (n3, w4) =>
    if (decide (((n3 : Nat) : Int) < (((x1).length : Nat) : Int))) then (
    (f70 (x1.getD n3 0#16) w4).bind fun (r5 : Bool × BitVec 16) =>
    chk (((n3 : Nat) : Int) < (((x1).length : Nat) : Int)) <|
    if r5.1 then (
    some (((n3 : Nat) : Int), r5.2)
    ) else (
    chk ((((n3 : Nat) : Int) + (1 : Int)) ≤ 9223372036854775807) <|
    (f73b_L0 x1 K1 k) ((n3 + 1), r5.2)
    )
    ) else (
    K1 w4
    )
def f73b (x1 : List (BitVec 16)) (x2 : BitVec 16) : Option (Int × BitVec 16) :=
  jn (fun (w6 : BitVec 16) =>
  some ((-1 : Int), w6)
  ) fun (K1 : (BitVec 16) → Option (Int × BitVec 16)) =>
  f73b_L0 x1 K1 FUEL (0, x2)
set_option maxRecDepth 100000 in
theorem f73b_ok  (x1 : List (BitVec 16)) (x2 : BitVec 16) (r : Int × BitVec 16) (h : f73b x1 x2 = some r)  : Spec1 Tryd.prog 73 [] [2000] [(2000, .cells 28 [.b16 x2])] [vL 1 eW 0#16 x1, .fn (.func 70) [.ptr 2000 0]] (.int .i64 r.1) [(2000, .cells 28 [.b16 r.2])] := by
  unfold f73b at h
  refine Spec1.body 0 _ _ Tryd.func73 rfl Tryd.ntmps73 rfl rfl ?_
  refine AWp.seq ?_
  refine AWp.regC [] [] [0, 1] [2000] ⟨19, [(0, vL 1 eW 0#16 x1), (1, .fn (.func 70) [.ptr 2000 0])], [(2000, .cells 28 [.b16 x2])], [2000], 0⟩ (True) Tryd_mixed (by kernel_rfl) trivial ?_
  refine thenQ_normal ?_
  obtain ⟨K1, hK1, h⟩ := jn_some h
  refine AWp.join (α := BitVec 16) (fun (w6 : BitVec 16) => ⟨19, [], [(2000, .cells 28 [.b16 w6])], [2000], 0⟩) (fun x => K1 x = some r) ?_ ?_
  ·
    refine AWp.seq ?_
    refine AWp.regC [] [] [0, 1, 7, 8] [2000] ⟨19, [(0, vL 1 eW 0#16 x1), (1, .fn (.func 70) [.ptr 2000 0]), (7, .int .i64 (((x1).length : Nat) : Int)), (8, .int .i64 (0 : Int))], [(2000, .cells 28 [.b16 x2])], [2000], 0⟩ (True) Tryd_mixed (by kernel_rfl) trivial ?_
    refine thenQ_normal ?_
    refine AWp.block ?_
    refine AWp.loopL (α := Nat × (Nat × BitVec 16)) (fun x => match x with | (_, n3, w4) => ⟨19, [(0, vL 1 eW 0#16 x1), (1, .fn (.func 70) [.ptr 2000 0]), (7, .int .i64 (((x1).length : Nat) : Int)), (8, .int .i64 ((n3 : Nat) : Int))], [(2000, .cells 28 [.b16 w4])], [2000], 0⟩) (fun x => f73b_L0 x1 K1 x.1 x.2 = some r) (fun x => x.1) (FUEL, 0, x2) (Le.mk (s := ⟨19, [(0, vL 1 eW 0#16 x1), (1, .fn (.func 70) [.ptr 2000 0]), (7, .int .i64 (((x1).length : Nat) : Int)), (8, .int .i64 (0 : Int))], [(2000, .cells 28 [.b16 x2])], [2000], 0⟩) (s' := ⟨19, [(0, vL 1 eW 0#16 x1), (1, .fn (.func 70) [.ptr 2000 0]), (7, .int .i64 (((x1).length : Nat) : Int)), (8, .int .i64 (0 : Int))], [(2000, .cells 28 [.b16 x2])], [2000], 0⟩) rfl rfl ⟨.refl _, .refl _, .refl _, .refl _, trivial⟩ ⟨⟨_, rfl, .refl _⟩, trivial⟩) h ?_
    rintro ⟨k0, n3, w4⟩ h
    cases k0 with
    | zero => exact nomatch (show (none : Option (Int × BitVec 16)) = some r from h)
    | succ k0 =>
    obtain ⟨C0, hC0⟩ : ∃ C, C = f73b_L0 x1 K1 k0 := ⟨_, rfl⟩
    replace h := (f73b_L0.eq_2 ..).symm.trans h
    try rw [← hC0] at h
    refine AWp.seq ?_
    refine AWp.regC [] [] [0, 1, 7, 8, 9] [2000] ⟨19, [(0, vL 1 eW 0#16 x1), (1, .fn (.func 70) [.ptr 2000 0]), (7, .int .i64 (((x1).length : Nat) : Int)), (8, .int .i64 ((n3 : Nat) : Int)), (9, .bool (decide (((n3 : Nat) : Int) < (((x1).length : Nat) : Int))))], [(2000, .cells 28 [.b16 w4])], [2000], 0⟩ (True) Tryd_mixed (by kernel_rfl) trivial ?_
    refine thenQ_normal ?_
    refine AWp.seq ?_
    refine AWp.cond (b := (decide (((n3 : Nat) : Int) < (((x1).length : Nat) : Int)))) (by kernel_rfl) (fun hc1 => ?_) (fun hc1 => ?_)
    ·
      replace h := ite_tb hc1 h
      refine AWp.skip ?_
      refine thenQ_normal ?_
      refine AWp.seq ?_
      refine AWp.block ?_
      refine AWp.seq ?_
      refine AWp.regC [] [] [0, 1, 5, 7, 8] [2000] ⟨19, [(0, vL 1 eW 0#16 x1), (1, .fn (.func 70) [.ptr 2000 0]), (5, .int .i64 ((n3 : Nat) : Int)), (7, .int .i64 (((x1).length : Nat) : Int)), (8, .int .i64 ((n3 : Nat) : Int))], [(2000, .cells 28 [.b16 w4])], [2000], 0⟩ (True) Tryd_mixed (by kernel_rfl) trivial ?_
      refine thenQ_normal ?_
      refine AWp.seq ?_
      obtain ⟨r5, hr5, h⟩ := bind_ok h
      obtain ⟨ob0p, h⟩ := chk_some h
      have ob0 : 0 ≤ ((n3 : Nat) : Int) ∧ ((n3 : Nat) : Int) < (((x1).length : Nat) : Int) := ⟨by omega, ob0p⟩
      refine AWp.regC [] [(5, ⟨[.b16 (x1.getD n3 0#16), .ptr 2000 0], [2000], [2000], [(2000, .cells 28 [.b16 r5.2])], .bool r5.1, [], [], []⟩)] [0, 1, 5, 7, 8, 16] [2000] ⟨19, [(0, vL 1 eW 0#16 x1), (1, .fn (.func 70) [.ptr 2000 0]), (5, .int .i64 ((n3 : Nat) : Int)), (7, .int .i64 (((x1).length : Nat) : Int)), (8, .int .i64 ((n3 : Nat) : Int)), (16, .bool r5.1)], [(2000, .cells 28 [.b16 r5.2])], [2000], 0⟩ ((0 ≤ ((n3 : Nat) : Int) ∧ ((n3 : Nat) : Int) < (((x1).length : Nat) : Int)) ∧ (callP Tryd.prog true 70 [] [2000] [(2000, .cells 28 [.b16 w4])] [] [] [.b16 (x1.getD n3 0#16), .ptr 2000 0] [.b16 (x1.getD n3 0#16), .ptr 2000 0] (.bool r5.1) [(2000, .cells 28 [.b16 r5.2])]) ∧ True) Tryd_mixed (by kernel_rfl) ⟨ob0, ⟨fun _ => (f70_ok (x1.getD n3 0#16) w4 r5 hr5), fun _ => ⟨.refl _, .refl _, trivial⟩, .inl rfl⟩, trivial⟩ ?_
      refine thenQ_normal ?_
      refine AWp.cond (b := r5.1) (by kernel_rfl) (fun hc2 => ?_) (fun hc2 => ?_)
      ·
        replace h := ite_tb hc2 h
        refine AWp.seq ?_
        refine AWp.regC [] [] [4] [2000] ⟨19, [(4, .int .i64 ((n3 : Nat) : Int))], [(2000, .cells 28 [.b16 r5.2])], [2000], 0⟩ (True) Tryd_mixed (by kernel_rfl) trivial ?_
        refine thenQ_normal ?_
        have hret := Option.some.inj h
        subst hret
        refine AWp.le (Le.mk (s := ⟨19, [(4, .int .i64 ((n3 : Nat) : Int))], [(2000, .cells 28 [.b16 r5.2])], [2000], 0⟩) (s' := ⟨19, [(4, .int .i64 ((n3 : Nat) : Int))], [(2000, .cells 28 [.b16 r5.2])], [2000], 0⟩) rfl rfl ⟨.refl _, trivial⟩ ⟨⟨_, rfl, .refl _⟩, trivial⟩) ?_
        refine AWp.ret ?_
        refine blockQ_ret ?_
        refine thenQ_ret ?_
        refine thenQ_ret ?_
        refine blockQ_ret ?_
        refine joinQ_ret ?_
        exact bodyQ_ret _ rfl ⟨rfl, rfl⟩ rfl
      ·
        replace h := ite_fb hc2 h
        refine AWp.skip ?_
        refine blockQ_normal ?_
        refine thenQ_normal ?_
        obtain ⟨ob1p, h⟩ := chk_some h
        have ob1 : -9223372036854775808 ≤ (((n3 : Nat) : Int) + (1 : Int)) ∧ (((n3 : Nat) : Int) + (1 : Int)) ≤ 9223372036854775807 := ⟨by omega, ob1p⟩
        refine AWp.regC [] [] [0, 1, 7, 8] [2000] ⟨19, [(0, vL 1 eW 0#16 x1), (1, .fn (.func 70) [.ptr 2000 0]), (7, .int .i64 (((x1).length : Nat) : Int)), (8, .int .i64 (((n3 + 1) : Nat) : Int))], [(2000, .cells 28 [.b16 r5.2])], [2000], 0⟩ ((-9223372036854775808 ≤ (((n3 : Nat) : Int) + (1 : Int)) ∧ (((n3 : Nat) : Int) + (1 : Int)) ≤ 9223372036854775807) ∧ True) Tryd_mixed (by kernel_rfl) ⟨ob1, trivial⟩ ?_
        rw [hC0] at h
        exact loopQ_normal (_, (n3 + 1), r5.2) (Le.mk (s := ⟨19, [(0, vL 1 eW 0#16 x1), (1, .fn (.func 70) [.ptr 2000 0]), (7, .int .i64 (((x1).length : Nat) : Int)), (8, .int .i64 (((n3 + 1) : Nat) : Int))], [(2000, .cells 28 [.b16 r5.2])], [2000], 0⟩) (s' := ⟨19, [(0, vL 1 eW 0#16 x1), (1, .fn (.func 70) [.ptr 2000 0]), (7, .int .i64 (((x1).length : Nat) : Int)), (8, .int .i64 (((n3 + 1) : Nat) : Int))], [(2000, .cells 28 [.b16 r5.2])], [2000], 0⟩) rfl rfl ⟨.refl _, .refl _, .refl _, .refl _, trivial⟩ ⟨⟨_, rfl, .refl _⟩, trivial⟩) h (Nat.lt_succ_self _)
    ·
      replace h := ite_fb hc1 h
      refine AWp.exit ?_
      refine thenQ_exit ?_
      refine thenQ_exit ?_
      refine blockQ_same ?_
      exact joinQ_normal (w4) (Le.mk (s := ⟨19, [(0, vL 1 eW 0#16 x1), (1, .fn (.func 70) [.ptr 2000 0]), (7, .int .i64 (((x1).length : Nat) : Int)), (8, .int .i64 ((n3 : Nat) : Int)), (9, .bool (decide (((n3 : Nat) : Int) < (((x1).length : Nat) : Int))))], [(2000, .cells 28 [.b16 w4])], [2000], 0⟩) (s' := ⟨19, [], [(2000, .cells 28 [.b16 w4])], [2000], 0⟩) rfl rfl trivial ⟨⟨_, rfl, .refl _⟩, trivial⟩) h
  ·
    rintro w6 h
    replace h := (congrFun hK1 _).symm.trans h
    refine AWp.seq ?_
    refine AWp.regC [] [] [4] [2000] ⟨19, [(4, .int .i64 (-1 : Int))], [(2000, .cells 28 [.b16 w6])], [2000], 0⟩ (True) Tryd_mixed (by kernel_rfl) trivial ?_
    refine thenQ_normal ?_
    have hret := Option.some.inj h
    subst hret
    refine AWp.le (Le.mk (s := ⟨19, [(4, .int .i64 (-1 : Int))], [(2000, .cells 28 [.b16 w6])], [2000], 0⟩) (s' := ⟨19, [(4, .int .i64 (-1 : Int))], [(2000, .cells 28 [.b16 w6])], [2000], 0⟩) rfl rfl ⟨.refl _, trivial⟩ ⟨⟨_, rfl, .refl _⟩, trivial⟩) ?_
    refine AWp.ret ?_
    exact bodyQ_ret _ rfl ⟨rfl, rfl⟩ rfl
def f53b (x1 : List (BitVec 16)) (x2 : BitVec 16) : Option (Bool × BitVec 16) :=
  (f73b x1 x2).bind fun (r3 : Int × BitVec 16) =>
  some ((decide (r3.1 ≥ (0 : Int))), r3.2)
set_option maxRecDepth 100000 in
theorem f53b_ok  (x1 : List (BitVec 16)) (x2 : BitVec 16) (r : Bool × BitVec 16) (h : f53b x1 x2 = some r)  : Spec1 Tryd.prog 53 [] [2000] [(2000, .cells 28 [.b16 x2])] [vL 1 eW 0#16 x1, .fn (.func 70) [.ptr 2000 0]] (.bool r.1) [(2000, .cells 28 [.b16 r.2])] := by
  unfold f53b at h
  refine Spec1.body 0 _ _ Tryd.func53 rfl Tryd.ntmps53 rfl rfl ?_
  refine AWp.seq ?_
  refine AWp.regC [] [] [0, 1] [2000] ⟨9, [(0, vL 1 eW 0#16 x1), (1, .fn (.func 70) [.ptr 2000 0])], [(2000, .cells 28 [.b16 x2])], [2000], 0⟩ (True) Tryd_mixed (by kernel_rfl) trivial ?_
  refine thenQ_normal ?_
  refine AWp.seq ?_
  obtain ⟨r3, hr3, h⟩ := bind_ok h
  refine AWp.regC [] [(2, ⟨[vL 1 eW 0#16 x1, .fn (.func 70) [.ptr 2000 0]], [2000], [2000], [(2000, .cells 28 [.b16 r3.2])], .int .i64 r3.1, [], [], []⟩)] [4] [2000] ⟨9, [(4, .bool (decide (r3.1 ≥ (0 : Int))))], [(2000, .cells 28 [.b16 r3.2])], [2000], 0⟩ ((callP Tryd.prog true 73 [] [2000] [(2000, .cells 28 [.b16 x2])] [] [] [vL 1 eW 0#16 x1, .fn (.func 70) [.ptr 2000 0]] [vL 1 eW 0#16 x1, .fn (.func 70) [.ptr 2000 0]] (.int .i64 r3.1) [(2000, .cells 28 [.b16 r3.2])]) ∧ True) Tryd_mixed (by kernel_rfl) ⟨⟨fun _ => (f73b_ok x1 x2 r3 hr3), fun _ => ⟨.refl _, .refl _, trivial⟩, .inl rfl⟩, trivial⟩ ?_
  refine thenQ_normal ?_
  have hret := Option.some.inj h
  subst hret
  refine AWp.le (Le.mk (s := ⟨9, [(4, .bool (decide (r3.1 ≥ (0 : Int))))], [(2000, .cells 28 [.b16 r3.2])], [2000], 0⟩) (s' := ⟨9, [(4, .bool (decide (r3.1 ≥ (0 : Int))))], [(2000, .cells 28 [.b16 r3.2])], [2000], 0⟩) rfl rfl ⟨.refl _, trivial⟩ ⟨⟨_, rfl, .refl _⟩, trivial⟩) ?_
  refine AWp.ret ?_
  exact bodyQ_ret _ rfl ⟨rfl, rfl⟩ rfl
def f86_L0 (Y70001 : (List (BitVec 16) × List (BitVec 16)) → (Int × BitVec 16) → Option (Nat × (List (BitVec 16) × List (BitVec 16)))) : Nat → (Int × List (BitVec 16) × List (BitVec 16) × Nat) → Option (Nat × List (BitVec 16) × List (BitVec 16))
  | 0, _ => none
  | k + 1, (i3, l4, l5, n6) =>
    if (decide (i3 ≥ (0 : Int))) then (
    jn (fun ((l8, l9, n10) : List (BitVec 16) × List (BitVec 16) × Nat) =>
    chk (-9223372036854775808 ≤ (i3 - (1 : Int)) ∧ (i3 - (1 : Int)) ≤ 9223372036854775807) <|
    (f86_L0 Y70001 k) ((i3 - (1 : Int)), l8, l9, n10)
    ) fun (K1 : (List (BitVec 16) × List (BitVec 16) × Nat) → Option (Nat × List (BitVec 16) × List (BitVec 16))) =>
    chk (n6 = 0) <|
    (Y70001 (l5, l4) (i3, (l4.getD ((i3).toNat) 0#16))).bind fun (r7 : Nat × (List (BitVec 16) × List (BitVec 16))) =>
    if r7.1 = 0 then (
    chk (0 ≤ i3 ∧ i3 < (((l4).length : Nat) : Int)) <|
    if (!true) then (
    some (0, r7.2.1, r7.2.2)
    ) else (
    K1 (r7.2.2, r7.2.1, 0)
    )
    ) else (
    chk (0 ≤ i3 ∧ i3 < (((l4).length : Nat) : Int)) <|
    if (!false) then (
    some (r7.1, r7.2.1, r7.2.2)
    ) else (
    K1 (r7.2.2, r7.2.1, r7.1)
    )
    )
    ) else (
    some (n6, l5, l4)
    )
def f86 (Y70001 : (List (BitVec 16) × List (BitVec 16)) → (Int × BitVec 16) → Option (Nat × (List (BitVec 16) × List (BitVec 16)))) (x1 : List (BitVec 16)) (x2 : List (BitVec 16)) : Option (Nat × List (BitVec 16) × List (BitVec 16)) :=
  chk (-9223372036854775808 ≤ ((((x2).length : Nat) : Int) - (1 : Int)) ∧ ((((x2).length : Nat) : Int) - (1 : Int)) ≤ 9223372036854775807) <|
  f86_L0 Y70001 FUEL (((((x2).length : Nat) : Int) - (1 : Int)), x2, x1, 0)
set_option maxRecDepth 100000 in
theorem f86_ok (C70001 : YC) (Y70001 : (List (BitVec 16) × List (BitVec 16)) → (Int × BitVec 16) → Option (Nat × (List (BitVec 16) × List (BitVec 16)))) (x1 : List (BitVec 16)) (x2 : List (BitVec 16)) (r : Nat × List (BitVec 16) × List (BitVec 16)) (h : f86 Y70001 x1 x2 = some r) (hY70001 : ∀ s x r, Y70001 s x = some r → YSpec Tryd.prog 70001 [3] C70001 [3, 6002] [(3, .cells 22 [.own 5800]), (5800, bL 28 1 eW 0#16 s.1), (6002, .cells 22 [vL 1 eW 0#16 s.2])] [.int .i64 x.1, .b16 x.2] r.1 [(3, .cells 22 [.own 5800]), (5800, bL 28 1 eW 0#16 r.2.1), (6002, .cells 22 [vL 1 eW 0#16 r.2.2])]) : Spec1 Tryd.prog 86 [] [70001, 3, 6002] [(70001, .yld (some ([3], C70001)) 0), (3, .cells 22 [.own 5800]), (5800, bL 28 1 eW 0#16 x1), (6002, .cells 22 [vL 1 eW 0#16 x2])] [.own 70001, .ptr 6002 0] (.tup []) [(70001, .yld (some ([3], C70001)) r.1), (3, .cells 22 [.own 5800]), (5800, bL 28 1 eW 0#16 r.2.1), (6002, .cells 22 [vL 1 eW 0#16 r.2.2])] := by
  unfold f86 at h
  refine Spec1.body 10000 _ _ Tryd.func86 rfl Tryd.ntmps86 rfl rfl ?_
  refine AWp.seq ?_
  obtain ⟨ob0, h⟩ := chk_some h
  refine AWp.regC [] [] [0, 1, 3] [3, 5800, 6002, 70001] ⟨19, [(0, .own 70001), (1, .ptr 6002 0), (3, .int .i64 ((((x2).length : Nat) : Int) - (1 : Int)))], [(3, .cells 22 [.own 5800]), (5800, bL 28 1 eW 0#16 x1), (6002, .cells 22 [vL 1 eW 0#16 x2]), (70001, .yld (some ([3], C70001)) 0)], [70001, 3, 6002], 10000⟩ ((-9223372036854775808 ≤ ((((x2).length : Nat) : Int) - (1 : Int)) ∧ ((((x2).length : Nat) : Int) - (1 : Int)) ≤ 9223372036854775807) ∧ True) Tryd_mixed (by kernel_rfl) ⟨ob0, trivial⟩ ?_
  refine thenQ_normal ?_
  refine AWp.block ?_
  refine AWp.loopL (α := Nat × (Int × List (BitVec 16) × List (BitVec 16) × Nat)) (fun x => match x with | (_, i3, l4, l5, n6) => ⟨19, [(0, .own 70001), (1, .ptr 6002 0), (3, .int .i64 i3)], [(3, .cells 22 [.own 5800]), (5800, bL 28 1 eW 0#16 l5), (6002, .cells 22 [vL 1 eW 0#16 l4]), (70001, .yld (some ([3], C70001)) n6)], [70001, 3, 6002], 10000⟩) (fun x => f86_L0 Y70001 x.1 x.2 = some r) (fun x => x.1) (FUEL, ((((x2).length : Nat) : Int) - (1 : Int)), x2, x1, 0) (Le.mk (s := ⟨19, [(0, .own 70001), (1, .ptr 6002 0), (3, .int .i64 ((((x2).length : Nat) : Int) - (1 : Int)))], [(3, .cells 22 [.own 5800]), (5800, bL 28 1 eW 0#16 x1), (6002, .cells 22 [vL 1 eW 0#16 x2]), (70001, .yld (some ([3], C70001)) 0)], [70001, 3, 6002], 10000⟩) (s' := ⟨19, [(0, .own 70001), (1, .ptr 6002 0), (3, .int .i64 ((((x2).length : Nat) : Int) - (1 : Int)))], [(3, .cells 22 [.own 5800]), (5800, bL 28 1 eW 0#16 x1), (6002, .cells 22 [vL 1 eW 0#16 x2]), (70001, .yld (some ([3], C70001)) 0)], [70001, 3, 6002], 10000⟩) rfl rfl ⟨.refl _, .refl _, .refl _, trivial⟩ ⟨⟨_, rfl, .refl _⟩, ⟨_, rfl, .refl _⟩, ⟨_, rfl, .refl _⟩, ⟨_, rfl, .refl _⟩, trivial⟩) h ?_
  rintro ⟨k0, i3, l4, l5, n6⟩ h
  cases k0 with
  | zero => exact nomatch (show (none : Option (Nat × List (BitVec 16) × List (BitVec 16))) = some r from h)
  | succ k0 =>
  obtain ⟨C0, hC0⟩ : ∃ C, C = f86_L0 Y70001 k0 := ⟨_, rfl⟩
  replace h := (f86_L0.eq_2 ..).symm.trans h
  try rw [← hC0] at h
  refine AWp.seq ?_
  refine AWp.seq ?_
  refine AWp.regC [] [] [0, 1, 3, 8] [3, 5800, 6002, 70001] ⟨19, [(0, .own 70001), (1, .ptr 6002 0), (3, .int .i64 i3), (8, .bool (decide (i3 ≥ (0 : Int))))], [(3, .cells 22 [.own 5800]), (5800, bL 28 1 eW 0#16 l5), (6002, .cells 22 [vL 1 eW 0#16 l4]), (70001, .yld (some ([3], C70001)) n6)], [70001, 3, 6002], 10000⟩ (True) Tryd_mixed (by kernel_rfl) trivial ?_
  refine thenQ_normal ?_
  refine AWp.cond (b := (decide (i3 ≥ (0 : Int)))) (by kernel_rfl) (fun hc1 => ?_) (fun hc1 => ?_)
  ·
    replace h := ite_tb hc1 h
    refine AWp.skip ?_
    refine thenQ_normal ?_
    obtain ⟨K1, hK1, h⟩ := jn_some h
    refine AWp.join (α := List (BitVec 16) × List (BitVec 16) × Nat) (fun (x : List (BitVec 16) × List (BitVec 16) × Nat) => match x with | (l8, l9, n10) => ⟨19, [(0, .own 70001), (1, .ptr 6002 0), (3, .int .i64 i3)], [(3, .cells 22 [.own 5800]), (5800, bL 28 1 eW 0#16 l9), (6002, .cells 22 [vL 1 eW 0#16 l8]), (70001, .yld (some ([3], C70001)) n10)], [70001, 3, 6002], 10000⟩) (fun x => K1 x = some r) ?_ ?_
    ·
      refine AWp.block ?_
      refine AWp.seq ?_
      obtain ⟨hz2, h⟩ := chk_some h
      refine AWp.le (Le.mk (s' := ⟨19, [(0, .own 70001), (1, .ptr 6002 0), (3, .int .i64 i3), (8, .bool (decide (i3 ≥ (0 : Int))))], [(3, .cells 22 [.own 5800]), (5800, bL 28 1 eW 0#16 l5), (6002, .cells 22 [vL 1 eW 0#16 l4]), (70001, .yld (some ([3], C70001)) 0)], [70001, 3, 6002], 10000⟩) rfl rfl ⟨.refl _, .refl _, .refl _, .refl _, trivial⟩ ⟨⟨_, rfl, .refl _⟩, ⟨_, rfl, .refl _⟩, ⟨_, rfl, .refl _⟩, ⟨_, rfl, BLe.yldEq hz2⟩, trivial⟩) ?_
      obtain ⟨r7, hr7, h⟩ := bind_ok h
      by_cases hy_r7 : r7.1 = 0
      ·
        replace h := ite_t hy_r7 h
        obtain ⟨ob1, h⟩ := chk_some h
        refine AWp.regC [] [(6, ⟨[.int .i64 i3, .b16 (l4.getD ((i3).toNat) 0#16)], [70001, 3, 5800, 6002], [3, 6002], [(70001, .yld (some ([3], C70001)) 0), (3, .cells 22 [.own 5800]), (5800, bL 28 1 eW 0#16 r7.2.1), (6002, .cells 22 [vL 1 eW 0#16 r7.2.2])], .bool true, [5800], [], []⟩)] [0, 1, 3, 18] [3, 5800, 6002, 70001] ⟨19, [(0, .own 70001), (1, .ptr 6002 0), (3, .int .i64 i3), (18, .bool (!true))], [(3, .cells 22 [.own 5800]), (5800, bL 28 1 eW 0#16 r7.2.1), (6002, .cells 22 [vL 1 eW 0#16 r7.2.2]), (70001, .yld (some ([3], C70001)) 0)], [70001, 3, 6002], 10000⟩ ((0 ≤ i3 ∧ i3 < (((l4).length : Nat) : Int)) ∧ (([(70001, .yld (some ([3], C70001)) 0), (3, .cells 22 [.own 5800]), (5800, bL 28 1 eW 0#16 r7.2.1), (6002, .cells 22 [vL 1 eW 0#16 r7.2.2])] : Heap) = (70001, .yld (some ([3], C70001)) 0) :: [(3, .cells 22 [.own 5800]), (5800, bL 28 1 eW 0#16 r7.2.1), (6002, .cells 22 [vL 1 eW 0#16 r7.2.2])] ∧ V.bool true = V.bool (0 == 0) ∧ YSpec Tryd.prog 70001 [3] C70001 [3, 6002] [(3, .cells 22 [.own 5800]), (5800, bL 28 1 eW 0#16 l5), (6002, .cells 22 [vL 1 eW 0#16 l4])] [.int .i64 i3, .b16 (l4.getD ((i3).toNat) 0#16)] 0 [(3, .cells 22 [.own 5800]), (5800, bL 28 1 eW 0#16 r7.2.1), (6002, .cells 22 [vL 1 eW 0#16 r7.2.2])] ∧ VLes [.int .i64 i3, .b16 (l4.getD ((i3).toNat) 0#16)] [.int .i64 i3, .b16 (l4.getD ((i3).toNat) 0#16)]) ∧ True) Tryd_mixed (by kernel_rfl) ⟨ob1, ⟨rfl, rfl, (YSpec.zero (hY70001 _ _ r7 hr7) hy_r7), ⟨.refl _, .refl _, trivial⟩⟩, trivial⟩ ?_
        refine thenQ_normal ?_
        refine AWp.cond (b := (!true)) (by kernel_rfl) (fun hc4 => ?_) (fun hc4 => ?_)
        ·
          replace h := ite_tb hc4 h
          have hret := Option.some.inj h
          subst hret
          refine AWp.le (Le.mk (s := ⟨19, [(0, .own 70001), (1, .ptr 6002 0), (3, .int .i64 i3), (18, .bool (!true))], [(3, .cells 22 [.own 5800]), (5800, bL 28 1 eW 0#16 r7.2.1), (6002, .cells 22 [vL 1 eW 0#16 r7.2.2]), (70001, .yld (some ([3], C70001)) 0)], [70001, 3, 6002], 10000⟩) (s' := ⟨19, [], [(70001, .yld (some ([3], C70001)) 0), (3, .cells 22 [.own 5800]), (5800, bL 28 1 eW 0#16 r7.2.1), (6002, .cells 22 [vL 1 eW 0#16 r7.2.2])], [70001, 3, 6002], 10000⟩) rfl rfl trivial ⟨⟨_, rfl, .refl _⟩, ⟨_, rfl, .refl _⟩, ⟨_, rfl, .refl _⟩, ⟨_, rfl, .refl _⟩, trivial⟩) ?_
          refine AWp.ret ?_
          refine blockQ_ret ?_
          refine joinQ_ret ?_
          refine thenQ_ret ?_
          refine blockQ_ret ?_
          exact bodyQ_ret _ rfl ⟨rfl, rfl⟩ rfl
        ·
          replace h := ite_fb hc4 h
          refine AWp.skip ?_
          refine blockQ_normal ?_
          exact joinQ_normal (r7.2.2, r7.2.1, 0) (Le.mk (s := ⟨19, [(0, .own 70001), (1, .ptr 6002 0), (3, .int .i64 i3), (18, .bool (!true))], [(3, .cells 22 [.own 5800]), (5800, bL 28 1 eW 0#16 r7.2.1), (6002, .cells 22 [vL 1 eW 0#16 r7.2.2]), (70001, .yld (some ([3], C70001)) 0)], [70001, 3, 6002], 10000⟩) (s' := ⟨19, [(0, .own 70001), (1, .ptr 6002 0), (3, .int .i64 i3)], [(3, .cells 22 [.own 5800]), (5800, bL 28 1 eW 0#16 r7.2.1), (6002, .cells 22 [vL 1 eW 0#16 r7.2.2]), (70001, .yld (some ([3], C70001)) 0)], [70001, 3, 6002], 10000⟩) rfl rfl ⟨.refl _, .refl _, .refl _, trivial⟩ ⟨⟨_, rfl, .refl _⟩, ⟨_, rfl, .refl _⟩, ⟨_, rfl, .refl _⟩, ⟨_, rfl, .refl _⟩, trivial⟩) h
      ·
        replace h := ite_f hy_r7 h
        obtain ⟨ob1, h⟩ := chk_some h
        refine AWp.regC [] [(6, ⟨[.int .i64 i3, .b16 (l4.getD ((i3).toNat) 0#16)], [70001, 3, 5800, 6002], [3, 6002], [(70001, .yld (some ([3], C70001)) r7.1), (3, .cells 22 [.own 5800]), (5800, bL 28 1 eW 0#16 r7.2.1), (6002, .cells 22 [vL 1 eW 0#16 r7.2.2])], .bool false, [5800], [], []⟩)] [0, 1, 3, 18] [3, 5800, 6002, 70001] ⟨19, [(0, .own 70001), (1, .ptr 6002 0), (3, .int .i64 i3), (18, .bool (!false))], [(3, .cells 22 [.own 5800]), (5800, bL 28 1 eW 0#16 r7.2.1), (6002, .cells 22 [vL 1 eW 0#16 r7.2.2]), (70001, .yld (some ([3], C70001)) r7.1)], [70001, 3, 6002], 10000⟩ ((0 ≤ i3 ∧ i3 < (((l4).length : Nat) : Int)) ∧ (([(70001, .yld (some ([3], C70001)) r7.1), (3, .cells 22 [.own 5800]), (5800, bL 28 1 eW 0#16 r7.2.1), (6002, .cells 22 [vL 1 eW 0#16 r7.2.2])] : Heap) = (70001, .yld (some ([3], C70001)) r7.1) :: [(3, .cells 22 [.own 5800]), (5800, bL 28 1 eW 0#16 r7.2.1), (6002, .cells 22 [vL 1 eW 0#16 r7.2.2])] ∧ V.bool false = V.bool (r7.1 == 0) ∧ YSpec Tryd.prog 70001 [3] C70001 [3, 6002] [(3, .cells 22 [.own 5800]), (5800, bL 28 1 eW 0#16 l5), (6002, .cells 22 [vL 1 eW 0#16 l4])] [.int .i64 i3, .b16 (l4.getD ((i3).toNat) 0#16)] r7.1 [(3, .cells 22 [.own 5800]), (5800, bL 28 1 eW 0#16 r7.2.1), (6002, .cells 22 [vL 1 eW 0#16 r7.2.2])] ∧ VLes [.int .i64 i3, .b16 (l4.getD ((i3).toNat) 0#16)] [.int .i64 i3, .b16 (l4.getD ((i3).toNat) 0#16)]) ∧ True) Tryd_mixed (by kernel_rfl) ⟨ob1, ⟨rfl, bool_ne hy_r7, (hY70001 _ _ r7 hr7), ⟨.refl _, .refl _, trivial⟩⟩, trivial⟩ ?_
        refine thenQ_normal ?_
        refine AWp.cond (b := (!false)) (by kernel_rfl) (fun hc5 => ?_) (fun hc5 => ?_)
        ·
          replace h := ite_tb hc5 h
          have hret := Option.some.inj h
          subst hret
          refine AWp.le (Le.mk (s := ⟨19, [(0, .own 70001), (1, .ptr 6002 0), (3, .int .i64 i3), (18, .bool (!false))], [(3, .cells 22 [.own 5800]), (5800, bL 28 1 eW 0#16 r7.2.1), (6002, .cells 22 [vL 1 eW 0#16 r7.2.2]), (70001, .yld (some ([3], C70001)) r7.1)], [70001, 3, 6002], 10000⟩) (s' := ⟨19, [], [(70001, .yld (some ([3], C70001)) r7.1), (3, .cells 22 [.own 5800]), (5800, bL 28 1 eW 0#16 r7.2.1), (6002, .cells 22 [vL 1 eW 0#16 r7.2.2])], [70001, 3, 6002], 10000⟩) rfl rfl trivial ⟨⟨_, rfl, .refl _⟩, ⟨_, rfl, .refl _⟩, ⟨_, rfl, .refl _⟩, ⟨_, rfl, .refl _⟩, trivial⟩) ?_
          refine AWp.ret ?_
          refine blockQ_ret ?_
          refine joinQ_ret ?_
          refine thenQ_ret ?_
          refine blockQ_ret ?_
          exact bodyQ_ret _ rfl ⟨rfl, rfl⟩ rfl
        ·
          replace h := ite_fb hc5 h
          refine AWp.skip ?_
          refine blockQ_normal ?_
          exact joinQ_normal (r7.2.2, r7.2.1, r7.1) (Le.mk (s := ⟨19, [(0, .own 70001), (1, .ptr 6002 0), (3, .int .i64 i3), (18, .bool (!false))], [(3, .cells 22 [.own 5800]), (5800, bL 28 1 eW 0#16 r7.2.1), (6002, .cells 22 [vL 1 eW 0#16 r7.2.2]), (70001, .yld (some ([3], C70001)) r7.1)], [70001, 3, 6002], 10000⟩) (s' := ⟨19, [(0, .own 70001), (1, .ptr 6002 0), (3, .int .i64 i3)], [(3, .cells 22 [.own 5800]), (5800, bL 28 1 eW 0#16 r7.2.1), (6002, .cells 22 [vL 1 eW 0#16 r7.2.2]), (70001, .yld (some ([3], C70001)) r7.1)], [70001, 3, 6002], 10000⟩) rfl rfl ⟨.refl _, .refl _, .refl _, trivial⟩ ⟨⟨_, rfl, .refl _⟩, ⟨_, rfl, .refl _⟩, ⟨_, rfl, .refl _⟩, ⟨_, rfl, .refl _⟩, trivial⟩) h
    ·
      rintro ⟨l8, l9, n10⟩ h
      replace h := (congrFun hK1 _).symm.trans h
      obtain ⟨ob2, h⟩ := chk_some h
      refine AWp.regC [] [] [0, 1, 3] [3, 5800, 6002, 70001] ⟨19, [(0, .own 70001), (1, .ptr 6002 0), (3, .int .i64 (i3 - (1 : Int)))], [(3, .cells 22 [.own 5800]), (5800, bL 28 1 eW 0#16 l9), (6002, .cells 22 [vL 1 eW 0#16 l8]), (70001, .yld (some ([3], C70001)) n10)], [70001, 3, 6002], 10000⟩ ((-9223372036854775808 ≤ (i3 - (1 : Int)) ∧ (i3 - (1 : Int)) ≤ 9223372036854775807) ∧ True) Tryd_mixed (by kernel_rfl) ⟨ob2, trivial⟩ ?_
      rw [hC0] at h
      exact loopQ_normal (_, (i3 - (1 : Int)), l8, l9, n10) (Le.mk (s := ⟨19, [(0, .own 70001), (1, .ptr 6002 0), (3, .int .i64 (i3 - (1 : Int)))], [(3, .cells 22 [.own 5800]), (5800, bL 28 1 eW 0#16 l9), (6002, .cells 22 [vL 1 eW 0#16 l8]), (70001, .yld (some ([3], C70001)) n10)], [70001, 3, 6002], 10000⟩) (s' := ⟨19, [(0, .own 70001), (1, .ptr 6002 0), (3, .int .i64 (i3 - (1 : Int)))], [(3, .cells 22 [.own 5800]), (5800, bL 28 1 eW 0#16 l9), (6002, .cells 22 [vL 1 eW 0#16 l8]), (70001, .yld (some ([3], C70001)) n10)], [70001, 3, 6002], 10000⟩) rfl rfl ⟨.refl _, .refl _, .refl _, trivial⟩ ⟨⟨_, rfl, .refl _⟩, ⟨_, rfl, .refl _⟩, ⟨_, rfl, .refl _⟩, ⟨_, rfl, .refl _⟩, trivial⟩) h (Nat.lt_succ_self _)
  ·
    replace h := ite_fb hc1 h
    refine AWp.exit ?_
    refine thenQ_exit ?_
    refine thenQ_exit ?_
    refine blockQ_same ?_
    have hret := Option.some.inj h
    subst hret
    exact bodyQ_le (Le.mk (s := ⟨19, [(0, .own 70001), (1, .ptr 6002 0), (3, .int .i64 i3), (8, .bool (decide (i3 ≥ (0 : Int))))], [(3, .cells 22 [.own 5800]), (5800, bL 28 1 eW 0#16 l5), (6002, .cells 22 [vL 1 eW 0#16 l4]), (70001, .yld (some ([3], C70001)) n6)], [70001, 3, 6002], 10000⟩) (s' := ⟨19, [], [(70001, .yld (some ([3], C70001)) n6), (3, .cells 22 [.own 5800]), (5800, bL 28 1 eW 0#16 l5), (6002, .cells 22 [vL 1 eW 0#16 l4])], [70001, 3, 6002], 10000⟩) rfl rfl trivial ⟨⟨_, rfl, .refl _⟩, ⟨_, rfl, .refl _⟩, ⟨_, rfl, .refl _⟩, ⟨_, rfl, .refl _⟩, trivial⟩) (bodyQ_normal _ rfl ⟨rfl, rfl⟩ rfl)
def f71_L0 : Nat → (Nat × Int × List (BitVec 16)) → Option (List (BitVec 16))
  | 0, _ => none
  | k + 1, (n2, i3, l4) =>
    if (decide (((n2 : Nat) : Int) < i3)) then (
    chk (0 ≤ i3 ∧ i3 < (((l4).length : Nat) : Int)) <|
    chk (((i3).toNat) < (l4).length) <|
    chk (((n2 : Nat) : Int) < (((l4).length : Nat) : Int)) <|
    chk (n2 < (l4).length) <|
    chk (((n2 : Nat) : Int) < (((l4).length : Nat) : Int)) <|
    chk (n2 < (l4).length) <|
    chk (0 ≤ i3 ∧ i3 < (((l4).length : Nat) : Int)) <|
    chk (((i3).toNat) < (l4).length) <|
    chk ((((n2 : Nat) : Int) + (1 : Int)) ≤ 9223372036854775807) <|
    chk (-9223372036854775808 ≤ (i3 - (1 : Int)) ∧ (i3 - (1 : Int)) ≤ 9223372036854775807) <|
    (f71_L0 k) ((n2 + 1), (i3 - (1 : Int)), ((l4.set n2 (l4.getD ((i3).toNat) 0#16)).set ((i3).toNat) (l4.getD n2 0#16)))
    ) else (
    some l4
    )
def f71 (x1 : List (BitVec 16)) : Option (List (BitVec 16)) :=
  chk (-9223372036854775808 ≤ ((((x1).length : Nat) : Int) - (1 : Int)) ∧ ((((x1).length : Nat) : Int) - (1 : Int)) ≤ 9223372036854775807) <|
  f71_L0 FUEL (0, ((((x1).length : Nat) : Int) - (1 : Int)), x1)
set_option maxRecDepth 100000 in
theorem f71_ok  (x1 : List (BitVec 16)) (r : List (BitVec 16)) (h : f71 x1 = some r)  : Spec1 Tryd.prog 71 [] [2000] [(2000, bL 28 1 eW 0#16 x1)] [.own 2000] (.tup []) [(2000, bL 28 1 eW 0#16 r)] := by
  unfold f71 at h
  refine Spec1.body 0 _ _ Tryd.func71 rfl Tryd.ntmps71 rfl rfl ?_
  refine AWp.seq ?_
  obtain ⟨ob0, h⟩ := chk_some h
  refine AWp.regC [] [] [0, 2, 3] [2000] ⟨28, [(0, .own 2000), (2, .int .i64 (0 : Int)), (3, .int .i64 ((((x1).length : Nat) : Int) - (1 : Int)))], [(2000, bL 28 1 eW 0#16 x1)], [2000], 0⟩ ((-9223372036854775808 ≤ ((((x1).length : Nat) : Int) - (1 : Int)) ∧ ((((x1).length : Nat) : Int) - (1 : Int)) ≤ 9223372036854775807) ∧ True) Tryd_mixed (by kernel_rfl) ⟨ob0, trivial⟩ ?_
  refine thenQ_normal ?_
  refine AWp.block ?_
  refine AWp.loopL (α := Nat × (Nat × Int × List (BitVec 16))) (fun x => match x with | (_, n2, i3, l4) => ⟨28, [(0, .own 2000), (2, .int .i64 ((n2 : Nat) : Int)), (3, .int .i64 i3)], [(2000, bL 28 1 eW 0#16 l4)], [2000], 0⟩) (fun x => f71_L0 x.1 x.2 = some r) (fun x => x.1) (FUEL, 0, ((((x1).length : Nat) : Int) - (1 : Int)), x1) (Le.mk (s := ⟨28, [(0, .own 2000), (2, .int .i64 (0 : Int)), (3, .int .i64 ((((x1).length : Nat) : Int) - (1 : Int)))], [(2000, bL 28 1 eW 0#16 x1)], [2000], 0⟩) (s' := ⟨28, [(0, .own 2000), (2, .int .i64 (0 : Int)), (3, .int .i64 ((((x1).length : Nat) : Int) - (1 : Int)))], [(2000, bL 28 1 eW 0#16 x1)], [2000], 0⟩) rfl rfl ⟨.refl _, .refl _, .refl _, trivial⟩ ⟨⟨_, rfl, .refl _⟩, trivial⟩) h ?_
  rintro ⟨k0, n2, i3, l4⟩ h
  cases k0 with
  | zero => exact nomatch (show (none : Option (List (BitVec 16))) = some r from h)
  | succ k0 =>
  obtain ⟨C0, hC0⟩ : ∃ C, C = f71_L0 k0 := ⟨_, rfl⟩
  replace h := (f71_L0.eq_2 ..).symm.trans h
  try rw [← hC0] at h
  refine AWp.seq ?_
  refine AWp.seq ?_
  refine AWp.regC [] [] [0, 2, 3, 9] [2000] ⟨28, [(0, .own 2000), (2, .int .i64 ((n2 : Nat) : Int)), (3, .int .i64 i3), (9, .bool (decide (((n2 : Nat) : Int) < i3)))], [(2000, bL 28 1 eW 0#16 l4)], [2000], 0⟩ (True) Tryd_mixed (by kernel_rfl) trivial ?_
  refine thenQ_normal ?_
  refine AWp.cond (b := (decide (((n2 : Nat) : Int) < i3))) (by kernel_rfl) (fun hc1 => ?_) (fun hc1 => ?_)
  ·
    replace h := ite_tb hc1 h
    refine AWp.skip ?_
    refine thenQ_normal ?_
    refine AWp.seq ?_
    refine AWp.block ?_
    obtain ⟨ob1, h⟩ := chk_some h
    obtain ⟨ob2, h⟩ := chk_some h
    obtain ⟨ob3p, h⟩ := chk_some h
    have ob3 : 0 ≤ ((n2 : Nat) : Int) ∧ ((n2 : Nat) : Int) < (((l4).length : Nat) : Int) := ⟨by omega, ob3p⟩
    obtain ⟨ob4, h⟩ := chk_some h
    obtain ⟨ob5p, h⟩ := chk_some h
    have ob5 : 0 ≤ ((n2 : Nat) : Int) ∧ ((n2 : Nat) : Int) < (((l4).length : Nat) : Int) := ⟨by omega, ob5p⟩
    obtain ⟨ob6, h⟩ := chk_some h
    obtain ⟨ob7, h⟩ := chk_some h
    obtain ⟨ob8, h⟩ := chk_some h
    refine AWp.regC [] [] [0, 2, 3] [2000] ⟨28, [(0, .own 2000), (2, .int .i64 ((n2 : Nat) : Int)), (3, .int .i64 i3)], [(2000, .rows 28 1 (l4).length (updF (updF (encF eW 0#16 l4) n2 0 [.b16 (l4.getD ((i3).toNat) 0#16)]) ((i3).toNat) 0 [.b16 (l4.getD n2 0#16)]))], [2000], 0⟩ ((0 ≤ i3 ∧ i3 < (((l4).length : Nat) : Int)) ∧ (((i3).toNat) < (l4).length) ∧ (0 ≤ ((n2 : Nat) : Int) ∧ ((n2 : Nat) : Int) < (((l4).length : Nat) : Int)) ∧ (n2 < (l4).length) ∧ (0 ≤ ((n2 : Nat) : Int) ∧ ((n2 : Nat) : Int) < (((l4).length : Nat) : Int)) ∧ (n2 < (l4).length) ∧ (0 ≤ i3 ∧ i3 < (((l4).length : Nat) : Int)) ∧ (((i3).toNat) < (l4).length) ∧ True) Tryd_mixed (by kernel_rfl) ⟨ob1, ob2, ob3, ob4, ob5, ob6, ob7, ob8, trivial⟩ ?_
    refine blockQ_normal ?_
    refine thenQ_normal ?_
    refine AWp.le (Le.mk (s := ⟨28, [(0, .own 2000), (2, .int .i64 ((n2 : Nat) : Int)), (3, .int .i64 i3)], [(2000, .rows 28 1 (l4).length (updF (updF (encF eW 0#16 l4) n2 0 [.b16 (l4.getD ((i3).toNat) 0#16)]) ((i3).toNat) 0 [.b16 (l4.getD n2 0#16)]))], [2000], 0⟩) (s' := ⟨28, [(0, .own 2000), (2, .int .i64 ((n2 : Nat) : Int)), (3, .int .i64 i3)], [(2000, bL 28 1 eW 0#16 ((l4.set n2 (l4.getD ((i3).toNat) 0#16)).set ((i3).toNat) (l4.getD n2 0#16)))], [2000], 0⟩) rfl rfl ⟨.refl _, .refl _, .refl _, trivial⟩ ⟨⟨_, rfl, (BLe.of (RL.set (l4.getD n2 0#16) (RL.set (l4.getD ((i3).toNat) 0#16) (RL.self _) (by intro j hj; match j, hj with | 0, _ => rfl)) (by intro j hj; match j, hj with | 0, _ => rfl)))⟩, trivial⟩) ?_
    obtain ⟨ob9p, h⟩ := chk_some h
    have ob9 : -9223372036854775808 ≤ (((n2 : Nat) : Int) + (1 : Int)) ∧ (((n2 : Nat) : Int) + (1 : Int)) ≤ 9223372036854775807 := ⟨by omega, ob9p⟩
    obtain ⟨ob10, h⟩ := chk_some h
    refine AWp.regC [] [] [0, 2, 3] [2000] ⟨28, [(0, .own 2000), (2, .int .i64 (((n2 + 1) : Nat) : Int)), (3, .int .i64 (i3 - (1 : Int)))], [(2000, bL 28 1 eW 0#16 ((l4.set n2 (l4.getD ((i3).toNat) 0#16)).set ((i3).toNat) (l4.getD n2 0#16)))], [2000], 0⟩ ((-9223372036854775808 ≤ (((n2 : Nat) : Int) + (1 : Int)) ∧ (((n2 : Nat) : Int) + (1 : Int)) ≤ 9223372036854775807) ∧ (-9223372036854775808 ≤ (i3 - (1 : Int)) ∧ (i3 - (1 : Int)) ≤ 9223372036854775807) ∧ True) Tryd_mixed (by kernel_rfl) ⟨ob9, ob10, trivial⟩ ?_
    rw [hC0] at h
    exact loopQ_normal (_, (n2 + 1), (i3 - (1 : Int)), ((l4.set n2 (l4.getD ((i3).toNat) 0#16)).set ((i3).toNat) (l4.getD n2 0#16))) (Le.mk (s := ⟨28, [(0, .own 2000), (2, .int .i64 (((n2 + 1) : Nat) : Int)), (3, .int .i64 (i3 - (1 : Int)))], [(2000, bL 28 1 eW 0#16 ((l4.set n2 (l4.getD ((i3).toNat) 0#16)).set ((i3).toNat) (l4.getD n2 0#16)))], [2000], 0⟩) (s' := ⟨28, [(0, .own 2000), (2, .int .i64 (((n2 + 1) : Nat) : Int)), (3, .int .i64 (i3 - (1 : Int)))], [(2000, bL 28 1 eW 0#16 ((l4.set n2 (l4.getD ((i3).toNat) 0#16)).set ((i3).toNat) (l4.getD n2 0#16)))], [2000], 0⟩) rfl rfl ⟨.refl _, .refl _, .refl _, trivial⟩ ⟨⟨_, rfl, .refl _⟩, trivial⟩) h (Nat.lt_succ_self _)
  ·
    replace h := ite_fb hc1 h
    refine AWp.exit ?_
    refine thenQ_exit ?_
    refine thenQ_exit ?_
    refine blockQ_same ?_
    have hret := Option.some.inj h
    subst hret
    exact bodyQ_le (Le.mk (s := ⟨28, [(0, .own 2000), (2, .int .i64 ((n2 : Nat) : Int)), (3, .int .i64 i3), (9, .bool (decide (((n2 : Nat) : Int) < i3)))], [(2000, bL 28 1 eW 0#16 l4)], [2000], 0⟩) (s' := ⟨28, [], [(2000, bL 28 1 eW 0#16 l4)], [2000], 0⟩) rfl rfl trivial ⟨⟨_, rfl, .refl _⟩, trivial⟩) (bodyQ_normal _ rfl ⟨rfl, rfl⟩ rfl)
def f46_Y70001 : (List (BitVec 16) × List (BitVec 16)) → (Int × BitVec 16) → Option (Nat × (List (BitVec 16) × List (BitVec 16)))
  | (l5, l4), (_x6, x7) =>
    (f53b l5 x7).bind fun (r8 : Bool × BitVec 16) =>
    if (!r8.1) then (
    chk (((l5).length + 1) * 2 ≤ 140737488355328) <|
    some (0, ((l5 ++ [r8.2]), l4))
    ) else (
    some (0, (l5, l4))
    )
def f46 (x1 : List (BitVec 16)) : Option (List (BitVec 16)) :=
  (f67 x1).bind fun (r2 : List (BitVec 16)) =>
  (f69 r2).bind fun (r3 : List (BitVec 16)) =>
  (f86 f46_Y70001 [] r3).bind fun (r9 : Nat × List (BitVec 16) × List (BitVec 16)) =>
  chk (r9.1 ≠ 1) <|
  if r9.1 = 0 then (
  (f71 r9.2.1).bind fun (r10 : List (BitVec 16)) =>
  some r10
  ) else (
  none
  )
set_option maxRecDepth 100000 in
theorem f46_ok  (x1 : List (BitVec 16)) (r : List (BitVec 16)) (h : f46 x1 = some r)  : Spec1 Tryd.prog 46 [] [] [] [vL 1 eW 0#16 x1] (.own 3000) [(3000, bL 28 1 eW 0#16 r)] := by
  unfold f46 at h
  refine Spec1.body 0 _ _ Tryd.func46 rfl Tryd.ntmps46 rfl rfl ?_
  refine AWp.seq ?_
  refine AWp.regC [] [] [0] [] ⟨22, [(0, vL 1 eW 0#16 x1)], [], [], 0⟩ (True) Tryd_mixed (by kernel_rfl) trivial ?_
  refine thenQ_normal ?_
  refine AWp.seq ?_
  refine AWp.regC [] [] [0, 3] [3] ⟨22, [(0, vL 1 eW 0#16 x1), (3, .ptr 3 0)], [(3, .cells 22 [.nils])], [], 0⟩ (True) Tryd_mixed (by kernel_rfl) trivial ?_
  refine thenQ_normal ?_
  refine AWp.seq ?_
  refine AWp.seq ?_
  obtain ⟨r2, hr2, h⟩ := bind_ok h
  obtain ⟨r3, hr3, h⟩ := bind_ok h
  refine AWp.regC [] [(1, ⟨[vL 1 eW 0#16 x1], [], [], [(6001, bL 28 1 eW 0#16 r2)], .own 6001, [6001], [], []⟩), (2, ⟨[.own 6001], [6001], [], [(6002, .cells 22 [vL 1 eW 0#16 r3])], .fn (.func 86) [.ptr 6002 0], [6002], [], []⟩)] [3, 8] [3, 6002] ⟨22, [(3, .ptr 3 0), (8, .fn (.func 86) [.ptr 6002 0])], [(3, .cells 22 [.nils]), (6002, .cells 22 [vL 1 eW 0#16 r3])], [], 0⟩ ((callP Tryd.prog true 67 [] [] [] [] [] [vL 1 eW 0#16 x1] [vL 1 eW 0#16 x1] (.own 6001) [(6001, bL 28 1 eW 0#16 r2)]) ∧ (callP Tryd.prog true 69 [] [] [(6001, bL 28 1 eW 0#16 r2)] [] [] [.own 6001] [.own 6001] (.fn (.func 86) [.ptr 6002 0]) [(6002, .cells 22 [vL 1 eW 0#16 r3])]) ∧ True) Tryd_mixed (by kernel_rfl) ⟨⟨fun _ => (Spec1.ren (swapN 3000 6001) (swapN_inv 3000 6001) rfl (f67_ok x1 r2 hr2)), fun _ => ⟨.refl _, trivial⟩, .inl rfl⟩, ⟨fun _ => (Spec1.pre (Spec1.ren (swapN 3500 6002) (swapN_inv 3500 6002) rfl (f69_ok r2 r3 hr3)) rfl rfl rfl (Le.trans (Le.freeze (s := ⟨1, [(0, .own 6001)], [(6001, bL 28 1 eW 0#16 r2)], [], 0⟩) 6001 rfl rfl) (Le.mk (s' := ⟨1, [(0, vL 1 eW 0#16 r2)], [], [], 0⟩) rfl rfl ⟨.refl _, trivial⟩ trivial))), fun _ => ⟨.refl _, trivial⟩, .inl rfl⟩, trivial⟩ ?_
  refine thenQ_normal ?_
  refine AWp.block ?_
  refine AWp.le (Le.trans (Le.trans (Le.nilOwnC (s := ⟨22, [(3, .ptr 3 0), (8, .fn (.func 86) [.ptr 6002 0])], [(3, .cells 22 [.nils]), (6002, .cells 22 [vL 1 eW 0#16 r3])], [], 0⟩) 3 0 5800 28 1 (encF eW 0#16 []) rfl rfl rfl) (Le.mk (s' := ⟨22, [(3, .ptr 3 0), (8, .fn (.func 86) [.ptr 6002 0])], [(3, .cells 22 [.own 5800]), (6002, .cells 22 [vL 1 eW 0#16 r3]), (5800, bL 28 1 eW 0#16 [])], [], 0⟩) rfl rfl ⟨.refl _, .refl _, trivial⟩ ⟨⟨_, rfl, .refl _⟩, ⟨_, rfl, .refl _⟩, ⟨_, rfl, .refl _⟩, trivial⟩)) (Le.mk (s := ⟨22, [(3, .ptr 3 0), (8, .fn (.func 86) [.ptr 6002 0])], [(3, .cells 22 [.own 5800]), (6002, .cells 22 [vL 1 eW 0#16 r3]), (5800, bL 28 1 eW 0#16 [])], [], 0⟩) (s' := ⟨22, [(3, .ptr 3 0), (8, .fn (.func 86) [.ptr 6002 0])], [(3, .cells 22 [.own 5800]), (5800, bL 28 1 eW 0#16 []), (6002, .cells 22 [vL 1 eW 0#16 r3])], [], 0⟩) rfl rfl ⟨.refl _, .refl _, trivial⟩ ⟨⟨_, rfl, .refl _⟩, ⟨_, rfl, .refl _⟩, ⟨_, rfl, .refl _⟩, trivial⟩)) ?_
  obtain ⟨r9, hr9, h⟩ := bind_ok h
  obtain ⟨hkr9, h⟩ := chk_some h
  refine AWp.rangeFunc (s := ⟨22, [(3, .ptr 3 0), (8, .fn (.func 86) [.ptr 6002 0])], [(3, .cells 22 [.own 5800]), (5800, bL 28 1 eW 0#16 []), (6002, .cells 22 [vL 1 eW 0#16 r3])], [], 0⟩) 70001 [3] [3] [] 86 [.ptr 6002 0] ⟨[.own 70001, .ptr 6002 0], [3, 5800, 6002], [70001, 3, 6002], [], .tup [], [5800], [], []⟩ r9.1 [(3, .cells 22 [.own 5800]), (5800, bL 28 1 eW 0#16 r9.2.1), (6002, .cells 22 [vL 1 eW 0#16 r9.2.2])] ⟨22, [(3, .ptr 3 0), (8, .fn (.func 86) [.ptr 6002 0])], [(3, .cells 22 [.own 5800]), (5800, bL 28 1 eW 0#16 r9.2.1), (6002, .cells 22 [vL 1 eW 0#16 r9.2.2])], [], 0⟩ rfl (by kernel_rfl) (by kernel_rfl) (fun g0 => ?_) (fun C => (by kernel_rfl)) (by kernel_rfl) (by kernel_rfl) (by kernel_rfl) (by kernel_rfl) hkr9 (by kernel_rfl) ?_ ?_
  ·
    refine ⟨fun _ => (f86_ok _ f46_Y70001 [] r3 r9 hr9 ?_), fun _ => ⟨.refl _, .refl _, trivial⟩, .inl rfl⟩
    clear h
    rintro ⟨l5, l4⟩ ⟨x6, x7⟩ rY70001 h
    replace h := (f46_Y70001.eq_1 ..).symm.trans h
    refine YSpec.body 0 rfl (of_decide_eq_true (by kernel_rfl)) (of_decide_eq_true (by kernel_rfl)) (within_tget (by kernel_rfl)) (by kernel_rfl) (by kernel_rfl) (by kernel_rfl) (by kernel_rfl) ?_
    refine AWp.le (Le.mk (s' := ⟨22, [(9, .int .i64 x6), (10, .b16 x7), (3, .ptr 3 0)], [(3, .cells 22 [.own 5800]), (5800, bL 28 1 eW 0#16 l5), (6002, .cells 22 [vL 1 eW 0#16 l4])], [3, 6002], 0⟩) rfl rfl ⟨.refl _, .refl _, .refl _, trivial⟩ ⟨⟨_, rfl, .refl _⟩, ⟨_, rfl, .refl _⟩, ⟨_, rfl, .refl _⟩, trivial⟩) ?_
    refine AWp.regC [] [] [3, 5] [3, 5, 5800, 6002] ⟨22, [(3, .ptr 3 0), (5, .ptr 5 0)], [(3, .cells 22 [.own 5800]), (5, .cells 28 [.b16 x7]), (5800, bL 28 1 eW 0#16 l5), (6002, .cells 22 [vL 1 eW 0#16 l4])], [3, 6002], 0⟩ ((True) ∧ True) Tryd_mixed (by kernel_rfl) ⟨trivial, trivial⟩ ?_
    refine ⟨rfl, rfl, ?_⟩
    refine AWp.block ?_
    refine AWp.seq ?_
    obtain ⟨r8, hr8, h⟩ := bind_ok h
    refine AWp.regC [] [(2, ⟨[vL 1 eW 0#16 l5, .fn (.func 70) [.ptr 5 0]], [5], [5], [(5, .cells 28 [.b16 r8.2])], .bool r8.1, [], [5800], []⟩)] [3, 5, 14] [3, 5, 5800, 6002] ⟨22, [(3, .ptr 3 0), (5, .ptr 5 0), (14, .bool (!r8.1))], [(3, .cells 22 [.own 5800]), (5, .cells 28 [.b16 r8.2]), (5800, bL 28 1 eW 0#16 l5), (6002, .cells 22 [vL 1 eW 0#16 l4])], [3, 6002], 0⟩ ((callP Tryd.prog true 53 [] [5] [(5, .cells 28 [.b16 x7])] [(5800, bL 28 1 eW 0#16 l5)] [5800] [.own 5800, .fn (.func 70) [.ptr 5 0]] [vL 1 eW 0#16 l5, .fn (.func 70) [.ptr 5 0]] (.bool r8.1) [(5, .cells 28 [.b16 r8.2])]) ∧ True) Tryd_mixed (by kernel_rfl) ⟨⟨fun _ => (Spec1.ren (swapN 2000 5) (swapN_inv 2000 5) rfl (f53b_ok l5 x7 r8 hr8)), fun _ => ⟨.refl _, .refl _, trivial⟩, .inr ⟨rfl, ⟨rfl, trivial⟩⟩⟩, trivial⟩ ?_
    refine thenQ_normal ?_
    refine AWp.cond (b := (!r8.1)) (by kernel_rfl) (fun hc1 => ?_) (fun hc1 => ?_)
    ·
      replace h := ite_tb hc1 h
      obtain ⟨ob0, h⟩ := chk_some h
      refine AWp.regC [] [] [] [3, 5800, 6002] ⟨22, [], [(3, .cells 22 [.own 5800]), (5800, .rows 28 1 ((l5).length + 1) (appF (l5).length (encF eW 0#16 l5) (lstF 1 [.b16 r8.2]))), (6002, .cells 22 [vL 1 eW 0#16 l4])], [3, 6002], 0⟩ ((((l5).length + 1) * 2 ≤ 140737488355328) ∧ (True) ∧ True) Tryd_mixed (by kernel_rfl) ⟨ob0, trivial, trivial⟩ ?_
      refine blockQ_normal ?_
      have hret := Option.some.inj h
      subst hret
      exact ⟨_, (Le.trans (Le.mk (s := ⟨22, [], [(3, .cells 22 [.own 5800]), (5800, .rows 28 1 ((l5).length + 1) (appF (l5).length (encF eW 0#16 l5) (lstF 1 [.b16 r8.2]))), (6002, .cells 22 [vL 1 eW 0#16 l4])], [3, 6002], 0⟩) (s' := ⟨22, [], [(3, .cells 22 [.own 5800]), (5800, bL 28 1 eW 0#16 (l5 ++ [r8.2])), (6002, .cells 22 [vL 1 eW 0#16 l4])], [3, 6002], 0⟩) rfl rfl trivial ⟨⟨_, rfl, .refl _⟩, ⟨_, rfl, (BLe.of (RL.app (RL.self _) (RL.lst (enc := eW) [r8.2] rfl rfl (fun _ => rfl))))⟩, ⟨_, rfl, .refl _⟩, trivial⟩) (Le.mk (s := ⟨22, [], [(3, .cells 22 [.own 5800]), (5800, bL 28 1 eW 0#16 (l5 ++ [r8.2])), (6002, .cells 22 [vL 1 eW 0#16 l4])], [3, 6002], 0⟩) (s' := ⟨22, [], [(3, .cells 22 [.own 5800]), (5800, bL 28 1 eW 0#16 (l5 ++ [r8.2])), (6002, .cells 22 [vL 1 eW 0#16 l4])], [3, 6002], 0⟩) rfl rfl trivial ⟨⟨_, rfl, .refl _⟩, ⟨_, rfl, .refl _⟩, ⟨_, rfl, .refl _⟩, trivial⟩)), rfl, rfl, .inl ⟨rfl, rfl⟩⟩
    ·
      replace h := ite_fb hc1 h
      refine AWp.skip ?_
      refine blockQ_normal ?_
      have hret := Option.some.inj h
      subst hret
      exact ⟨_, (Le.mk (s := ⟨22, [(3, .ptr 3 0), (5, .ptr 5 0), (14, .bool (!r8.1))], [(3, .cells 22 [.own 5800]), (5, .cells 28 [.b16 r8.2]), (5800, bL 28 1 eW 0#16 l5), (6002, .cells 22 [vL 1 eW 0#16 l4])], [3, 6002], 0⟩) (s' := ⟨22, [], [(3, .cells 22 [.own 5800]), (5800, bL 28 1 eW 0#16 l5), (6002, .cells 22 [vL 1 eW 0#16 l4])], [3, 6002], 0⟩) rfl rfl trivial ⟨⟨_, rfl, .refl _⟩, ⟨_, rfl, .refl _⟩, ⟨_, rfl, .refl _⟩, trivial⟩), rfl, rfl, .inl ⟨rfl, rfl⟩⟩
  ·
    intro hk0
    replace h := ite_t hk0 h
    refine blockQ_normal ?_
    refine thenQ_normal ?_
    refine AWp.seq ?_
    obtain ⟨r10, hr10, h⟩ := bind_ok h
    refine AWp.regC [] [(1, ⟨[.own 5800], [5800], [5800], [(5800, bL 28 1 eW 0#16 r10)], .tup [], [], [], []⟩)] [3] [3, 5800] ⟨22, [(3, .ptr 3 0)], [(3, .cells 22 [.own 5800]), (5800, bL 28 1 eW 0#16 r10)], [], 0⟩ ((callP Tryd.prog true 71 [] [5800] [(5800, bL 28 1 eW 0#16 r9.2.1)] [] [] [.own 5800] [.own 5800] (.tup []) [(5800, bL 28 1 eW 0#16 r10)]) ∧ True) Tryd_mixed (by kernel_rfl) ⟨⟨fun _ => (Spec1.ren (swapN 2000 5800) (swapN_inv 2000 5800) rfl (f71_ok r9.2.1 r10 hr10)), fun _ => ⟨.refl _, trivial⟩, .inl rfl⟩, trivial⟩ ?_
    refine thenQ_normal ?_
    refine AWp.seq ?_
    refine AWp.regC [] [] [2] [5800] ⟨22, [(2, .own 5800)], [(5800, bL 28 1 eW 0#16 r10)], [], 0⟩ (True) Tryd_mixed (by kernel_rfl) trivial ?_
    refine thenQ_normal ?_
    refine AWp.le (Le.trans (Le.ren (s := ⟨22, [(2, .own 5800)], [(5800, bL 28 1 eW 0#16 r10)], [], 0⟩) (swapN 5800 3000) (swapN_inv 5800 3000) rfl) (Le.mk (s' := ⟨22, [(2, .own 3000)], [(3000, bL 28 1 eW 0#16 r10)], [], 0⟩) rfl rfl ⟨.refl _, trivial⟩ ⟨⟨_, rfl, .refl _⟩, trivial⟩)) ?_
    have hret := Option.some.inj h
    subst hret
    refine AWp.le (Le.mk (s := ⟨22, [(2, .own 3000)], [(3000, bL 28 1 eW 0#16 r10)], [], 0⟩) (s' := ⟨22, [(2, .own 3000)], [(3000, bL 28 1 eW 0#16 r10)], [], 0⟩) rfl rfl ⟨.refl _, trivial⟩ ⟨⟨_, rfl, .refl _⟩, trivial⟩) ?_
    refine AWp.ret ?_
    exact bodyQ_ret _ rfl ⟨rfl, rfl⟩ rfl
  ·
    intro j hkj
    replace h := ite_f (by omega) h
    exact nomatch (show (none : Option (List (BitVec 16))) = some r from h)
def f42a (x1 : List (BitVec 16)) : Option (List (BitVec 16) × Int) :=
  (f53a x1).bind fun (r2 : Bool) =>
  if r2 then (
  some ([], (7 : Int))
  ) else (
  (f46 x1).bind fun (r3 : List (BitVec 16)) =>
  (f49 r3).bind fun (r4 : List (BitVec 16) × Int) =>
  some (r4.1, r4.2)
  )
set_option maxRecDepth 100000 in
theorem f42a_ok  (x1 : List (BitVec 16)) (r : List (BitVec 16) × Int) (h : f42a x1 = some r)  : Spec1 Tryd.prog 42 [] [] [] [vL 1 eW 0#16 x1, .fn (.func 46) []] (.tup [vL 1 eW 0#16 r.1, .int .i64 r.2]) [] := by
  unfold f42a at h
  refine Spec1.body 0 _ _ Tryd.func42 rfl Tryd.ntmps42 rfl rfl ?_
  refine AWp.seq ?_
  refine AWp.regC [] [] [0, 1] [] ⟨14, [(0, vL 1 eW 0#16 x1), (1, .fn (.func 46) [])], [], [], 0⟩ (True) Tryd_mixed (by kernel_rfl) trivial ?_
  refine thenQ_normal ?_
  refine AWp.seq ?_
  refine AWp.seq ?_
  obtain ⟨r2, hr2, h⟩ := bind_ok h
  refine AWp.regC [] [(1, ⟨[vL 1 eW 0#16 x1, .fn (.func 66) []], [], [], [], .bool r2, [], [], []⟩)] [0, 1, 7] [] ⟨14, [(0, vL 1 eW 0#16 x1), (1, .fn (.func 46) []), (7, .bool r2)], [], [], 0⟩ ((callP Tryd.prog true 53 [] [] [] [] [] [vL 1 eW 0#16 x1, .fn (.func 66) []] [vL 1 eW 0#16 x1, .fn (.func 66) []] (.bool r2) []) ∧ True) Tryd_mixed (by kernel_rfl) ⟨⟨fun _ => (f53a_ok x1 r2 hr2), fun _ => ⟨.refl _, .refl _, trivial⟩, .inl rfl⟩, trivial⟩ ?_
  refine thenQ_normal ?_
  refine AWp.cond (b := r2) (by kernel_rfl) (fun hc1 => ?_) (fun hc1 => ?_)
  ·
    replace h := ite_tb hc1 h
    refine AWp.seq ?_
    refine AWp.regC [] [] [4, 5] [] ⟨14, [(4, .nils), (5, .int .i64 (7 : Int))], [], [], 0⟩ (True) Tryd_mixed (by kernel_rfl) trivial ?_
    refine thenQ_normal ?_
    have hret := Option.some.inj h
    subst hret
    refine AWp.le (Le.mk (s := ⟨14, [(4, .nils), (5, .int .i64 (7 : Int))], [], [], 0⟩) (s' := ⟨14, [(4, vL 1 eW 0#16 []), (5, .int .i64 (7 : Int))], [], [], 0⟩) rfl rfl ⟨.nilL, .refl _, trivial⟩ trivial) ?_
    refine AWp.ret ?_
    refine thenQ_ret ?_
    exact bodyQ_ret _ rfl ⟨rfl, rfl⟩ rfl
  ·
    replace h := ite_fb hc1 h
    refine AWp.skip ?_
    refine thenQ_normal ?_
    refine AWp.seq ?_
    obtain ⟨r3, hr3, h⟩ := bind_ok h
    obtain ⟨r4, hr4, h⟩ := bind_ok h
    refine AWp.regC [] [(2, ⟨[vL 1 eW 0#16 x1], [], [], [(6001, bL 28 1 eW 0#16 r3)], .own 6001, [6001], [], []⟩), (3, ⟨[.own 6001], [6001], [], [], .tup [vL 1 eW 0#16 r4.1, .int .i64 r4.2], [], [], []⟩)] [4, 5] [] ⟨14, [(4, vL 1 eW 0#16 r4.1), (5, .int .i64 r4.2)], [], [], 0⟩ ((callP Tryd.prog true 46 [] [] [] [] [] [vL 1 eW 0#16 x1] [vL 1 eW 0#16 x1] (.own 6001) [(6001, bL 28 1 eW 0#16 r3)]) ∧ (callP Tryd.prog true 49 [] [] [(6001, bL 28 1 eW 0#16 r3)] [] [] [.own 6001] [.own 6001] (.tup [vL 1 eW 0#16 r4.1, .int .i64 r4.2]) []) ∧ True) Tryd_mixed (by kernel_rfl) ⟨⟨fun _ => (Spec1.ren (swapN 3000 6001) (swapN_inv 3000 6001) rfl (f46_ok x1 r3 hr3)), fun _ => ⟨.refl _, trivial⟩, .inl rfl⟩, ⟨fun _ => (Spec1.pre (f49_ok r3 r4 hr4) rfl rfl rfl (Le.trans (Le.freeze (s := ⟨1, [(0, .own 6001)], [(6001, bL 28 1 eW 0#16 r3)], [], 0⟩) 6001 rfl rfl) (Le.mk (s' := ⟨1, [(0, vL 1 eW 0#16 r3)], [], [], 0⟩) rfl rfl ⟨.refl _, trivial⟩ trivial))), fun _ => ⟨.refl _, trivial⟩, .inl rfl⟩, trivial⟩ ?_
    refine thenQ_normal ?_
    have hret := Option.some.inj h
    subst hret
    refine AWp.le (Le.mk (s := ⟨14, [(4, vL 1 eW 0#16 r4.1), (5, .int .i64 r4.2)], [], [], 0⟩) (s' := ⟨14, [(4, vL 1 eW 0#16 r4.1), (5, .int .i64 r4.2)], [], [], 0⟩) rfl rfl ⟨.refl _, .refl _, trivial⟩ trivial) ?_
    refine AWp.ret ?_
    exact bodyQ_ret _ rfl ⟨rfl, rfl⟩ rfl
def f16 (x1 : List (BitVec 16)) : Option (List (BitVec 16) × Int) :=
  (f42a x1).bind fun (r2 : List (BitVec 16) × Int) =>
  some (r2.1, r2.2)
set_option maxRecDepth 100000 in
theorem f16_ok  (x1 : List (BitVec 16)) (r : List (BitVec 16) × Int) (h : f16 x1 = some r)  : Spec1 Tryd.prog 16 [] [] [] [vL 1 eW 0#16 x1] (.tup [vL 1 eW 0#16 r.1, .int .i64 r.2]) [] := by
  unfold f16 at h
  refine Spec1.body 0 _ _ Tryd.func16 rfl Tryd.ntmps16 rfl rfl ?_
  refine AWp.seq ?_
  refine AWp.regC [] [] [0] [] ⟨8, [(0, vL 1 eW 0#16 x1)], [], [], 0⟩ (True) Tryd_mixed (by kernel_rfl) trivial ?_
  refine thenQ_normal ?_
  refine AWp.seq ?_
  obtain ⟨r2, hr2, h⟩ := bind_ok h
  refine AWp.regC [] [(1, ⟨[vL 1 eW 0#16 x1, .fn (.func 46) []], [], [], [], .tup [vL 1 eW 0#16 r2.1, .int .i64 r2.2], [], [], []⟩)] [2, 3] [] ⟨8, [(2, vL 1 eW 0#16 r2.1), (3, .int .i64 r2.2)], [], [], 0⟩ ((callP Tryd.prog true 42 [] [] [] [] [] [vL 1 eW 0#16 x1, .fn (.func 46) []] [vL 1 eW 0#16 x1, .fn (.func 46) []] (.tup [vL 1 eW 0#16 r2.1, .int .i64 r2.2]) []) ∧ True) Tryd_mixed (by kernel_rfl) ⟨⟨fun _ => (f42a_ok x1 r2 hr2), fun _ => ⟨.refl _, .refl _, trivial⟩, .inl rfl⟩, trivial⟩ ?_
  refine thenQ_normal ?_
  have hret := Option.some.inj h
  subst hret
  refine AWp.le (Le.mk (s := ⟨8, [(2, vL 1 eW 0#16 r2.1), (3, .int .i64 r2.2)], [], [], 0⟩) (s' := ⟨8, [(2, vL 1 eW 0#16 r2.1), (3, .int .i64 r2.2)], [], [], 0⟩) rfl rfl ⟨.refl _, .refl _, trivial⟩ trivial) ?_
  refine AWp.ret ?_
  exact bodyQ_ret _ rfl ⟨rfl, rfl⟩ rfl
def f18_L0 (x1 : List (BitVec 16)) (x2 : List (BitVec 16)) (K1 : Unit → Option Bool) : Nat → Nat → Option Bool
  | 0, _ => none
  | k + 1, n3 =>
    if (decide (((n3 : Nat) : Int) < (((x1).length : Nat) : Int))) then (
    chk (((n3 : Nat) : Int) < (((x1).length : Nat) : Int)) <|
    chk (((n3 : Nat) : Int) < (((x2).length : Nat) : Int)) <|
    if (!((x1.getD n3 0#16) == (x2.getD n3 0#16))) then (
    some false
    ) else (
    chk ((((n3 : Nat) : Int) + (1 : Int)) ≤ 9223372036854775807) <|
    (f18_L0 x1 x2 K1 k) (n3 + 1)
    )
    ) else (
    K1 ()
    )
def f18 (x1 : List (BitVec 16)) (x2 : List (BitVec 16)) : Option Bool :=
  if ((((x1).length : Nat) : Int) != (((x2).length : Nat) : Int)) then (
  some false
  ) else (
  jn (fun (_ : Unit) =>
  some true
  ) fun (K1 : Unit → Option Bool) =>
  f18_L0 x1 x2 K1 FUEL 0
  )
end Go.Abs
