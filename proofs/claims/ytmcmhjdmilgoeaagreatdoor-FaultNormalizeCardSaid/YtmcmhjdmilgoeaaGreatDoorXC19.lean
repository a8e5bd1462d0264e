import Derived.Test.YtmcmhjdmilgoeaaGreatDoorAbsR3
import Derived.Test.YtmcmhjdmilgoeaaGreatDoorProg

namespace Go.Abs
open Go Go.Proofs
set_option maxHeartbeats 4000000
theorem Tryz_mixed : Tryz.prog.follows .mixedOrders = true := by kernel_rfl
def T0 : List Nat := [0, 1, 28, 2, 29, 14, 24, 3, 30, 22, 20, 15, 25, 17, 4, 8, 31, 27, 13, 23, 21, 19, 16, 7, 26, 12, 18, 6, 11, 5, 10, 9]
def T0F : Nat → Nat → V := fun _ j => .int .u8 ((T0.getD j 0 : Nat) : Int)
def T7 : List Nat := [0, 1, 56, 2, 57, 49, 28, 3, 61, 58, 42, 50, 38, 29, 17, 4, 62, 47, 59, 36, 45, 43, 51, 22, 53, 39, 33, 30, 24, 18, 12, 5, 63, 55, 48, 27, 60, 41, 37, 16, 46, 35, 44, 21, 52, 32, 23, 11, 54, 26, 40, 15, 34, 20, 31, 10, 25, 14, 19, 9, 13, 8, 7, 6]
def T7F : Nat → Nat → V := fun _ j => .int .u8 ((T7.getD j 0 : Nat) : Int)
def T6 : List Nat := [1, 10, 100, 1000, 10000, 100000, 1000000, 10000000, 100000000, 1000000000, 10000000000, 100000000000, 1000000000000, 10000000000000, 100000000000000, 1000000000000000, 10000000000000000, 100000000000000000, 1000000000000000000, 10000000000000000000]
def T6F : Nat → Nat → V := fun _ j => .int .u64 ((T6.getD j 0 : Nat) : Int)
def cs0 : List UInt8 := [0, 1, 1, 2, 1, 2, 2, 3, 1, 2, 2, 3, 2, 3, 3, 4, 1, 2, 2, 3, 2, 3, 3, 4, 2, 3, 3, 4, 3, 4, 4, 5, 1, 2, 2, 3, 2, 3, 3, 4, 2, 3, 3, 4, 3, 4, 4, 5, 2, 3, 3, 4, 3, 4, 4, 5, 3, 4, 4, 5, 4, 5, 5, 6, 1, 2, 2, 3, 2, 3, 3, 4, 2, 3, 3, 4, 3, 4, 4, 5, 2, 3, 3, 4, 3, 4, 4, 5, 3, 4, 4, 5, 4, 5, 5, 6, 2, 3, 3, 4, 3, 4, 4, 5, 3, 4, 4, 5, 4, 5, 5, 6, 3, 4, 4, 5, 4, 5, 5, 6, 4, 5, 5, 6, 5, 6, 6, 7, 1, 2, 2, 3, 2, 3, 3, 4, 2, 3, 3, 4, 3, 4, 4, 5, 2, 3, 3, 4, 3, 4, 4, 5, 3, 4, 4, 5, 4, 5, 5, 6, 2, 3, 3, 4, 3, 4, 4, 5, 3, 4, 4, 5, 4, 5, 5, 6, 3, 4, 4, 5, 4, 5, 5, 6, 4, 5, 5, 6, 5, 6, 6, 7, 2, 3, 3, 4, 3, 4, 4, 5, 3, 4, 4, 5, 4, 5, 5, 6, 3, 4, 4, 5, 4, 5, 5, 6, 4, 5, 5, 6, 5, 6, 6, 7, 3, 4, 4, 5, 4, 5, 5, 6, 4, 5, 5, 6, 5, 6, 6, 7, 4, 5, 5, 6, 5, 6, 6, 7, 5, 6, 6, 7, 6, 7, 7, 8]
def eI (x : Int) : List V := [.int .i64 x]
theorem q1rq {Q : Exit → S → Prop} {id : Nat} {draw : Bool} {y : Code} (W : List Nat) (calls : List (Nat × CC)) (ds rs : List Nat) {l : List Oper} {s : S} (s' : S) {φ : Prop} (hφ : φ) (hQ : AWp Tryz.prog y Q s') (h : Abs.regC Tryz.prog W draw calls ds rs l s = some (s', φ) := by kernel_rfl) : AWp Tryz.prog (.seq (.region id l.toArray draw) y) Q s := AWp.sq W calls ds rs s' φ Tryz_mixed h hφ hQ
theorem q1rr {Q : Exit → S → Prop} {id : Nat} {draw : Bool} (W : List Nat) (calls : List (Nat × CC)) (ds rs : List Nat) {l : List Oper} {s : S} (s' : S) {φ : Prop} (hφ : φ) (hQ : Q .normal s') (h : Abs.regC Tryz.prog W draw calls ds rs l s = some (s', φ) := by kernel_rfl) : AWp Tryz.prog (.region id l.toArray draw) Q s := AWp.regC W calls ds rs s' φ Tryz_mixed h hφ hQ
def f116 (x1 : BitVec 16) : Option Int :=
  chk ((((x1 >>> 8).toNat : Nat) : Int) < ((cs0.length : Nat) : Int)) <|
  chk ((((x1 &&& (BitVec.ofInt 16 255)).toNat : Nat) : Int) < ((cs0.length : Nat) : Int)) <|
  chk (((((cs0.getD ((x1 >>> 8).toNat) 0).toNat : Nat) : Int) + (((cs0.getD ((x1 &&& (BitVec.ofInt 16 255)).toNat) 0).toNat : Nat) : Int)) ≤ 255) <|
  chk (((((cs0.getD ((x1 >>> 8).toNat) 0).toNat + (cs0.getD ((x1 &&& (BitVec.ofInt 16 255)).toNat) 0).toNat) : Nat) : Int) ≤ 9223372036854775807) <|
  some ((((cs0.getD ((x1 >>> 8).toNat) 0).toNat + (cs0.getD ((x1 &&& (BitVec.ofInt 16 255)).toNat) 0).toNat) : Nat) : Int)
set_option maxRecDepth 100000 in
theorem f116_ok  (x1 : BitVec 16) (r : Int) (h : f116 x1 = some r)  : Spec1 Tryz.prog 116 [] [] [] [.b16 x1] (.int .i64 r) [] := by
  unfold f116 at h
  refine Spec1.body 0 _ _ Tryz.func116 rfl Tryz.ntmps116 rfl rfl ?_
  refine q1rq [] [] [0] [] ⟨11, [(0, .b16 x1)], [], [], 0⟩ trivial ?_
  refine AWp.seq ?_
  have ob0 : 0 ≤ (8 : Int) := by first | decide | omega | simp | (intro h; cases h)
  obtain ⟨ob1p, h⟩ := chk_some h
  have ob1 : 0 ≤ (((x1 >>> 8).toNat : Nat) : Int) ∧ (((x1 >>> 8).toNat : Nat) : Int) < ((cs0.length : Nat) : Int) := ⟨by omega, ob1p⟩
  obtain ⟨ob2p, h⟩ := chk_some h
  have ob2 : 0 ≤ (((x1 &&& (q1w16 255)).toNat : Nat) : Int) ∧ (((x1 &&& (q1w16 255)).toNat : Nat) : Int) < ((cs0.length : Nat) : Int) := ⟨by omega, ob2p⟩
  obtain ⟨ob3p, h⟩ := chk_some h
  have ob3 : 0 ≤ ((((cs0.getD ((x1 >>> 8).toNat) 0).toNat : Nat) : Int) + (((cs0.getD ((x1 &&& (q1w16 255)).toNat) 0).toNat : Nat) : Int)) ∧ ((((cs0.getD ((x1 >>> 8).toNat) 0).toNat : Nat) : Int) + (((cs0.getD ((x1 &&& (q1w16 255)).toNat) 0).toNat : Nat) : Int)) ≤ 255 := ⟨by omega, ob3p⟩
  obtain ⟨ob4p, h⟩ := chk_some h
  have ob4 : -9223372036854775808 ≤ ((((cs0.getD ((x1 >>> 8).toNat) 0).toNat + (cs0.getD ((x1 &&& (q1w16 255)).toNat) 0).toNat) : Nat) : Int) ∧ ((((cs0.getD ((x1 >>> 8).toNat) 0).toNat + (cs0.getD ((x1 &&& (q1w16 255)).toNat) 0).toNat) : Nat) : Int) ≤ 9223372036854775807 := ⟨by omega, ob4p⟩
  refine q1rr [] [] [2] [] ⟨11, [(2, .int .i64 ((((cs0.getD ((x1 >>> 8).toNat) 0).toNat + (cs0.getD ((x1 &&& (q1w16 255)).toNat) 0).toNat) : Nat) : Int))], [], [], 0⟩ (an5 ob0 ob1 ob2 ob3 ob4) ?_
  refine thenQ_normal ?_
  have hret := Option.some.inj h
  subst hret
  refine AWp.le (Le.mk (s' := ⟨11, [(2, .int .i64 ((((cs0.getD ((x1 >>> 8).toNat) 0).toNat + (cs0.getD ((x1 &&& (q1w16 255)).toNat) 0).toNat) : Nat) : Int))], [], [], 0⟩) rfl rfl ⟨.refl _, trivial⟩ trivial) ?_
  refine AWp.ret ?_
  exact bodyQ_ret _ rfl ⟨rfl, rfl⟩ rfl
def f91 (x1 : BitVec 16) : Option Int :=
  (f116 x1).bind fun (r2 : Int) =>
  some r2
set_option maxRecDepth 100000 in
theorem f91_ok  (x1 : BitVec 16) (r : Int) (h : f91 x1 = some r)  : Spec1 Tryz.prog 91 [] [] [] [.b16 x1] (.int .i64 r) [] := by
  unfold f91 at h
  refine Spec1.body 0 _ _ Tryz.func91 rfl Tryz.ntmps91 rfl rfl ?_
  refine q1rq [] [] [0] [] ⟨5, [(0, .b16 x1)], [], [], 0⟩ trivial ?_
  refine AWp.seq ?_
  obtain ⟨r2, hr2, h⟩ := bind_ok h
  refine q1rr [] [(1, ⟨[.b16 x1], [], [], [], .int .i64 r2, [], [], []⟩)] [2] [] ⟨5, [(2, .int .i64 r2)], [], [], 0⟩ (an1 (cpT (f116_ok _ _ hr2))) ?_
  refine thenQ_normal ?_
  have hret := Option.some.inj h
  subst hret
  refine AWp.le (Le.mk (s' := ⟨5, [(2, .int .i64 r2)], [], [], 0⟩) rfl rfl ⟨.refl _, trivial⟩ trivial) ?_
  refine AWp.ret ?_
  exact bodyQ_ret _ rfl ⟨rfl, rfl⟩ rfl
def f115 (x1 : Int) : Option Bool :=
  some (x1 != x1)
set_option maxRecDepth 100000 in
theorem f115_ok  (x1 : Int) (r : Bool) (h : f115 x1 = some r)  : Spec1 Tryz.prog 115 [] [] [] [.int .i64 x1] (.bool r) [] := by
  unfold f115 at h
  refine Spec1.body 0 _ _ Tryz.func115 rfl Tryz.ntmps115 rfl rfl ?_
  refine q1rq [] [] [0] [] ⟨6, [(0, .int .i64 x1)], [], [], 0⟩ trivial ?_
  refine q1rq [] [] [2] [] ⟨6, [(2, .bool (x1 != x1))], [], [], 0⟩ trivial ?_
  have hret := Option.some.inj h
  subst hret
  refine AWp.le (Le.mk (s' := ⟨6, [(2, .bool (x1 != x1))], [], [], 0⟩) rfl rfl ⟨.refl _, trivial⟩ trivial) ?_
  refine AWp.ret ?_
  exact bodyQ_ret _ rfl ⟨rfl, rfl⟩ rfl
def f90 (x1 : Int) (x2 : Int) : Option Int :=
  (f115 x1).bind fun (r3 : Bool) =>
  (f115 x2).bind fun (r4 : Bool) =>
  if r3 then (
  if r4 then (
  some (0 : Int)
  ) else (
  some (-1 : Int)
  )
  ) else (
  if r4 then (
  some (1 : Int)
  ) else (
  if (decide (x1 < x2)) then (
  some (-1 : Int)
  ) else (
  if (decide (x1 > x2)) then (
  some (1 : Int)
  ) else (
  some (0 : Int)
  )
  )
  )
  )
set_option maxRecDepth 100000 in
theorem f90_ok  (x1 : Int) (x2 : Int) (r : Int) (h : f90 x1 x2 = some r)  : Spec1 Tryz.prog 90 [] [] [] [.int .i64 x1, .int .i64 x2] (.int .i64 r) [] := by
  unfold f90 at h
  refine Spec1.body 0 _ _ Tryz.func90 rfl Tryz.ntmps90 rfl rfl ?_
  refine q1rq [] [] [0, 1] [] ⟨20, [(0, .int .i64 x1), (1, .int .i64 x2)], [], [], 0⟩ trivial ?_
  refine AWp.seq ?_
  obtain ⟨r3, hr3, h⟩ := bind_ok h
  refine q1rr [] [(1, ⟨[.int .i64 x1], [], [], [], .bool r3, [], [], []⟩)] [0, 1, 5] [] ⟨20, [(0, .int .i64 x1), (1, .int .i64 x2), (5, .bool r3)], [], [], 0⟩ (an1 (cpT (f115_ok _ _ hr3))) ?_
  refine thenQ_normal ?_
  refine AWp.seq ?_
  obtain ⟨r4, hr4, h⟩ := bind_ok h
  refine q1rr [] [(1, ⟨[.int .i64 x2], [], [], [], .bool r4, [], [], []⟩)] [0, 1, 5, 6] [] ⟨20, [(0, .int .i64 x1), (1, .int .i64 x2), (5, .bool r3), (6, .bool r4)], [], [], 0⟩ (an1 (cpT (f115_ok _ _ hr4))) ?_
  refine thenQ_normal ?_
  refine AWp.seq ?_
  refine q1rq [] [] [0, 1, 6, 11] [] ⟨20, [(0, .int .i64 x1), (1, .int .i64 x2), (6, .bool r4), (11, .bool r3)], [], [], 0⟩ trivial ?_
  refine AWp.cond (b := r3) (by kernel_rfl) (fun hc1 => ?_) (fun hc1 => ?_)
  ·
    replace h := ite_tb hc1 h
    refine AWp.seq ?_
    refine q1rq [] [] [12] [] ⟨20, [(12, .bool r4)], [], [], 0⟩ trivial ?_
    refine AWp.cond (b := r4) (by kernel_rfl) (fun hc2 => ?_) (fun hc2 => ?_)
    ·
      replace h := ite_tb hc2 h
      refine q1rq [] [] [4] [] ⟨20, [(4, .int .i64 (0 : Int))], [], [], 0⟩ trivial ?_
      have hret := Option.some.inj h
      subst hret
      refine AWp.le (Le.mk (s' := ⟨20, [(4, .int .i64 (0 : Int))], [], [], 0⟩) rfl rfl ⟨.refl _, trivial⟩ trivial) ?_
      refine AWp.ret ?_
      refine thenQ_ret ?_
      refine thenQ_ret ?_
      exact bodyQ_ret _ rfl ⟨rfl, rfl⟩ rfl
    ·
      replace h := ite_fb hc2 h
      refine AWp.skip ?_
      refine thenQ_normal ?_
      refine q1rq [] [] [4] [] ⟨20, [(4, .int .i64 (-1 : Int))], [], [], 0⟩ trivial ?_
      have hret := Option.some.inj h
      subst hret
      refine AWp.le (Le.mk (s' := ⟨20, [(4, .int .i64 (-1 : Int))], [], [], 0⟩) rfl rfl ⟨.refl _, trivial⟩ trivial) ?_
      refine AWp.ret ?_
      refine thenQ_ret ?_
      exact bodyQ_ret _ rfl ⟨rfl, rfl⟩ rfl
  ·
    replace h := ite_fb hc1 h
    refine AWp.skip ?_
    refine thenQ_normal ?_
    refine AWp.seq ?_
    refine q1rq [] [] [0, 1, 13] [] ⟨20, [(0, .int .i64 x1), (1, .int .i64 x2), (13, .bool r4)], [], [], 0⟩ trivial ?_
    refine AWp.cond (b := r4) (by kernel_rfl) (fun hc3 => ?_) (fun hc3 => ?_)
    ·
      replace h := ite_tb hc3 h
      refine q1rq [] [] [4] [] ⟨20, [(4, .int .i64 (1 : Int))], [], [], 0⟩ trivial ?_
      have hret := Option.some.inj h
      subst hret
      refine AWp.le (Le.mk (s' := ⟨20, [(4, .int .i64 (1 : Int))], [], [], 0⟩) rfl rfl ⟨.refl _, trivial⟩ trivial) ?_
      refine AWp.ret ?_
      refine thenQ_ret ?_
      exact bodyQ_ret _ rfl ⟨rfl, rfl⟩ rfl
    ·
      replace h := ite_fb hc3 h
      refine AWp.skip ?_
      refine thenQ_normal ?_
      refine AWp.seq ?_
      refine q1rq [] [] [0, 1, 16] [] ⟨20, [(0, .int .i64 x1), (1, .int .i64 x2), (16, .bool (decide (x1 < x2)))], [], [], 0⟩ trivial ?_
      refine AWp.cond (b := (decide (x1 < x2))) (by kernel_rfl) (fun hc4 => ?_) (fun hc4 => ?_)
      ·
        replace h := ite_tb hc4 h
        refine q1rq [] [] [4] [] ⟨20, [(4, .int .i64 (-1 : Int))], [], [], 0⟩ trivial ?_
        have hret := Option.some.inj h
        subst hret
        refine AWp.le (Le.mk (s' := ⟨20, [(4, .int .i64 (-1 : Int))], [], [], 0⟩) rfl rfl ⟨.refl _, trivial⟩ trivial) ?_
        refine AWp.ret ?_
        refine thenQ_ret ?_
        exact bodyQ_ret _ rfl ⟨rfl, rfl⟩ rfl
      ·
        replace h := ite_fb hc4 h
        refine AWp.skip ?_
        refine thenQ_normal ?_
        refine AWp.seq ?_
        refine q1rq [] [] [19] [] ⟨20, [(19, .bool (decide (x1 > x2)))], [], [], 0⟩ trivial ?_
        refine AWp.cond (b := (decide (x1 > x2))) (by kernel_rfl) (fun hc5 => ?_) (fun hc5 => ?_)
        ·
          replace h := ite_tb hc5 h
          refine q1rq [] [] [4] [] ⟨20, [(4, .int .i64 (1 : Int))], [], [], 0⟩ trivial ?_
          have hret := Option.some.inj h
          subst hret
          refine AWp.le (Le.mk (s' := ⟨20, [(4, .int .i64 (1 : Int))], [], [], 0⟩) rfl rfl ⟨.refl _, trivial⟩ trivial) ?_
          refine AWp.ret ?_
          refine thenQ_ret ?_
          exact bodyQ_ret _ rfl ⟨rfl, rfl⟩ rfl
        ·
          replace h := ite_fb hc5 h
          refine AWp.skip ?_
          refine thenQ_normal ?_
          refine q1rq [] [] [4] [] ⟨20, [(4, .int .i64 (0 : Int))], [], [], 0⟩ trivial ?_
          have hret := Option.some.inj h
          subst hret
          refine AWp.le (Le.mk (s' := ⟨20, [(4, .int .i64 (0 : Int))], [], [], 0⟩) rfl rfl ⟨.refl _, trivial⟩ trivial) ?_
          refine AWp.ret ?_
          exact bodyQ_ret _ rfl ⟨rfl, rfl⟩ rfl
def f117 (x1 : BitVec 16) : Option Bool :=
  some (!(x1 == x1))
set_option maxRecDepth 100000 in
theorem f117_ok  (x1 : BitVec 16) (r : Bool) (h : f117 x1 = some r)  : Spec1 Tryz.prog 117 [] [] [] [.b16 x1] (.bool r) [] := by
  unfold f117 at h
  refine Spec1.body 0 _ _ Tryz.func117 rfl Tryz.ntmps117 rfl rfl ?_
  refine q1rq [] [] [0] [] ⟨6, [(0, .b16 x1)], [], [], 0⟩ trivial ?_
  refine q1rq [] [] [2] [] ⟨6, [(2, .bool (!(x1 == x1)))], [], [], 0⟩ trivial ?_
  have hret := Option.some.inj h
  subst hret
  refine AWp.le (Le.mk (s' := ⟨6, [(2, .bool (!(x1 == x1)))], [], [], 0⟩) rfl rfl ⟨.refl _, trivial⟩ trivial) ?_
  refine AWp.ret ?_
  exact bodyQ_ret _ rfl ⟨rfl, rfl⟩ rfl
def f92 (x1 : BitVec 16) (x2 : BitVec 16) : Option Int :=
  (f117 x1).bind fun (r3 : Bool) =>
  (f117 x2).bind fun (r4 : Bool) =>
  if r3 then (
  if r4 then (
  some (0 : Int)
  ) else (
  some (-1 : Int)
  )
  ) else (
  if r4 then (
  some (1 : Int)
  ) else (
  if (decide (x1.toNat < x2.toNat)) then (
  some (-1 : Int)
  ) else (
  if (decide (x1.toNat > x2.toNat)) then (
  some (1 : Int)
  ) else (
  some (0 : Int)
  )
  )
  )
  )
set_option maxRecDepth 100000 in
theorem f92_ok  (x1 : BitVec 16) (x2 : BitVec 16) (r : Int) (h : f92 x1 x2 = some r)  : Spec1 Tryz.prog 92 [] [] [] [.b16 x1, .b16 x2] (.int .i64 r) [] := by
  unfold f92 at h
  refine Spec1.body 0 _ _ Tryz.func92 rfl Tryz.ntmps92 rfl rfl ?_
  refine q1rq [] [] [0, 1] [] ⟨20, [(0, .b16 x1), (1, .b16 x2)], [], [], 0⟩ trivial ?_
  refine AWp.seq ?_
  obtain ⟨r3, hr3, h⟩ := bind_ok h
  refine q1rr [] [(1, ⟨[.b16 x1], [], [], [], .bool r3, [], [], []⟩)] [0, 1, 5] [] ⟨20, [(0, .b16 x1), (1, .b16 x2), (5, .bool r3)], [], [], 0⟩ (an1 (cpT (f117_ok _ _ hr3))) ?_
  refine thenQ_normal ?_
  refine AWp.seq ?_
  obtain ⟨r4, hr4, h⟩ := bind_ok h
  refine q1rr [] [(1, ⟨[.b16 x2], [], [], [], .bool r4, [], [], []⟩)] [0, 1, 5, 6] [] ⟨20, [(0, .b16 x1), (1, .b16 x2), (5, .bool r3), (6, .bool r4)], [], [], 0⟩ (an1 (cpT (f117_ok _ _ hr4))) ?_
  refine thenQ_normal ?_
  refine AWp.seq ?_
  refine q1rq [] [] [0, 1, 6, 11] [] ⟨20, [(0, .b16 x1), (1, .b16 x2), (6, .bool r4), (11, .bool r3)], [], [], 0⟩ trivial ?_
  refine AWp.cond (b := r3) (by kernel_rfl) (fun hc1 => ?_) (fun hc1 => ?_)
  ·
    replace h := ite_tb hc1 h
    refine AWp.seq ?_
    refine q1rq [] [] [12] [] ⟨20, [(12, .bool r4)], [], [], 0⟩ trivial ?_
    refine AWp.cond (b := r4) (by kernel_rfl) (fun hc2 => ?_) (fun hc2 => ?_)
    ·
      replace h := ite_tb hc2 h
      refine q1rq [] [] [4] [] ⟨20, [(4, .int .i64 (0 : Int))], [], [], 0⟩ trivial ?_
      have hret := Option.some.inj h
      subst hret
      refine AWp.le (Le.mk (s' := ⟨20, [(4, .int .i64 (0 : Int))], [], [], 0⟩) rfl rfl ⟨.refl _, trivial⟩ trivial) ?_
      refine AWp.ret ?_
      refine thenQ_ret ?_
      refine thenQ_ret ?_
      exact bodyQ_ret _ rfl ⟨rfl, rfl⟩ rfl
    ·
      replace h := ite_fb hc2 h
      refine AWp.skip ?_
      refine thenQ_normal ?_
      refine q1rq [] [] [4] [] ⟨20, [(4, .int .i64 (-1 : Int))], [], [], 0⟩ trivial ?_
      have hret := Option.some.inj h
      subst hret
      refine AWp.le (Le.mk (s' := ⟨20, [(4, .int .i64 (-1 : Int))], [], [], 0⟩) rfl rfl ⟨.refl _, trivial⟩ trivial) ?_
      refine AWp.ret ?_
      refine thenQ_ret ?_
      exact bodyQ_ret _ rfl ⟨rfl, rfl⟩ rfl
  ·
    replace h := ite_fb hc1 h
    refine AWp.skip ?_
    refine thenQ_normal ?_
    refine AWp.seq ?_
    refine q1rq [] [] [0, 1, 13] [] ⟨20, [(0, .b16 x1), (1, .b16 x2), (13, .bool r4)], [], [], 0⟩ trivial ?_
    refine AWp.cond (b := r4) (by kernel_rfl) (fun hc3 => ?_) (fun hc3 => ?_)
    ·
      replace h := ite_tb hc3 h
      refine q1rq [] [] [4] [] ⟨20, [(4, .int .i64 (1 : Int))], [], [], 0⟩ trivial ?_
      have hret := Option.some.inj h
      subst hret
      refine AWp.le (Le.mk (s' := ⟨20, [(4, .int .i64 (1 : Int))], [], [], 0⟩) rfl rfl ⟨.refl _, trivial⟩ trivial) ?_
      refine AWp.ret ?_
      refine thenQ_ret ?_
      exact bodyQ_ret _ rfl ⟨rfl, rfl⟩ rfl
    ·
      replace h := ite_fb hc3 h
      refine AWp.skip ?_
      refine thenQ_normal ?_
      refine AWp.seq ?_
      refine q1rq [] [] [0, 1, 16] [] ⟨20, [(0, .b16 x1), (1, .b16 x2), (16, .bool (decide (x1.toNat < x2.toNat)))], [], [], 0⟩ trivial ?_
      refine AWp.cond (b := (decide (x1.toNat < x2.toNat))) (by kernel_rfl) (fun hc4 => ?_) (fun hc4 => ?_)
      ·
        replace h := ite_tb hc4 h
        refine q1rq [] [] [4] [] ⟨20, [(4, .int .i64 (-1 : Int))], [], [], 0⟩ trivial ?_
        have hret := Option.some.inj h
        subst hret
        refine AWp.le (Le.mk (s' := ⟨20, [(4, .int .i64 (-1 : Int))], [], [], 0⟩) rfl rfl ⟨.refl _, trivial⟩ trivial) ?_
        refine AWp.ret ?_
        refine thenQ_ret ?_
        exact bodyQ_ret _ rfl ⟨rfl, rfl⟩ rfl
      ·
        replace h := ite_fb hc4 h
        refine AWp.skip ?_
        refine thenQ_normal ?_
        refine AWp.seq ?_
        refine q1rq [] [] [19] [] ⟨20, [(19, .bool (decide (x1.toNat > x2.toNat)))], [], [], 0⟩ trivial ?_
        refine AWp.cond (b := (decide (x1.toNat > x2.toNat))) (by kernel_rfl) (fun hc5 => ?_) (fun hc5 => ?_)
        ·
          replace h := ite_tb hc5 h
          refine q1rq [] [] [4] [] ⟨20, [(4, .int .i64 (1 : Int))], [], [], 0⟩ trivial ?_
          have hret := Option.some.inj h
          subst hret
          refine AWp.le (Le.mk (s' := ⟨20, [(4, .int .i64 (1 : Int))], [], [], 0⟩) rfl rfl ⟨.refl _, trivial⟩ trivial) ?_
          refine AWp.ret ?_
          refine thenQ_ret ?_
          exact bodyQ_ret _ rfl ⟨rfl, rfl⟩ rfl
        ·
          replace h := ite_fb hc5 h
          refine AWp.skip ?_
          refine thenQ_normal ?_
          refine q1rq [] [] [4] [] ⟨20, [(4, .int .i64 (0 : Int))], [], [], 0⟩ trivial ?_
          have hret := Option.some.inj h
          subst hret
          refine AWp.le (Le.mk (s' := ⟨20, [(4, .int .i64 (0 : Int))], [], [], 0⟩) rfl rfl ⟨.refl _, trivial⟩ trivial) ?_
          refine AWp.ret ?_
          exact bodyQ_ret _ rfl ⟨rfl, rfl⟩ rfl
def f73_L0 (x1 : List Int) (K1 : Unit → Option Int) : Nat → Nat → Option Int
  | 0, _ => none
  | k + 1, n2 =>
    if (decide ((n2 : Int) < (((x1).length : Nat) : Int))) then (
    chk ((n2 : Int) < (((x1).length : Nat) : Int)) <|
    if ((x1.getD n2 0) != (0 : Int)) then (
    some (x1.getD n2 0)
    ) else (
    chk (((n2 : Int) + (1 : Int)) ≤ 9223372036854775807) <|
    (f73_L0 x1 K1 k) (n2 + 1)
    )
    ) else (
    K1 ()
    )
def f73 (x1 : List Int) : Option Int :=
  jn (fun (_ : Unit) =>
  some (0 : Int)
  ) fun (K1 : Unit → Option Int) =>
  f73_L0 x1 K1 FUEL 0
set_option maxRecDepth 100000 in
theorem f73_ok  (x1 : List Int) (r : Int) (h : f73 x1 = some r)  : Spec1 Tryz.prog 73 [] [] [] [vL 1 eI 0 x1] (.int .i64 r) [] := by
  unfold f73 at h
  refine Spec1.body 0 _ _ Tryz.func73 rfl Tryz.ntmps73 rfl rfl ?_
  refine q1rq [] [] [0] [] ⟨18, [(0, q1aI x1)], [], [], 0⟩ trivial ?_
  refine q1rq [] [] [0, 3] [] ⟨18, [(0, q1aI x1), (3, .int .i64 (0 : Int))], [], [], 0⟩ trivial ?_
  obtain ⟨K1, hK1, h⟩ := jn_some h
  refine AWp.join (α := Unit) (fun (x : Unit) => match x with | () => ⟨18, [(3, .int .i64 (0 : Int))], [], [], 0⟩) (fun x => K1 x = some r) ?_ ?_
  ·
    refine q1rq [] [] [3, 6, 7, 8] [] ⟨18, [(3, .int .i64 (0 : Int)), (6, q1aI x1), (7, .int .i64 (((x1).length : Nat) : Int)), (8, .int .i64 (0 : Int))], [], [], 0⟩ trivial ?_
    refine AWp.block ?_
    refine AWp.loopL (α := Nat × Nat) (fun x => match x with | (_, n2) => ⟨18, [(3, .int .i64 (0 : Int)), (6, q1aI x1), (7, .int .i64 (((x1).length : Nat) : Int)), (8, .int .i64 (n2 : Int))], [], [], 0⟩) (fun x => f73_L0 x1 K1 x.1 x.2 = some r) (fun x => x.1) (FUEL, 0) (Le.mk (s' := ⟨18, [(3, .int .i64 (0 : Int)), (6, q1aI x1), (7, .int .i64 (((x1).length : Nat) : Int)), (8, .int .i64 (0 : Int))], [], [], 0⟩) rfl rfl ⟨.refl _, .refl _, .refl _, .refl _, trivial⟩ trivial) h ?_
    rintro ⟨k0, n2⟩ h
    cases k0 with
    | zero => exact nomatch (show (none : Option Int) = some r from h)
    | succ k0 =>
    obtain ⟨C0, hC0⟩ : ∃ C, C = f73_L0 x1 K1 k0 := ⟨_, rfl⟩
    replace h := (f73_L0.eq_2 ..).symm.trans h
    try rw [← hC0] at h
    refine q1rq [] [] [3, 6, 7, 8, 9] [] ⟨18, [(3, .int .i64 (0 : Int)), (6, q1aI x1), (7, .int .i64 (((x1).length : Nat) : Int)), (8, .int .i64 (n2 : Int)), (9, .bool (decide ((n2 : Int) < (((x1).length : Nat) : Int))))], [], [], 0⟩ trivial ?_
    refine AWp.seq ?_
    refine AWp.cond (b := (decide ((n2 : Int) < (((x1).length : Nat) : Int)))) (by kernel_rfl) (fun hc1 => ?_) (fun hc1 => ?_)
    ·
      replace h := ite_tb hc1 h
      refine AWp.skip ?_
      refine thenQ_normal ?_
      refine AWp.seq ?_
      refine AWp.block ?_
      refine AWp.seq ?_
      obtain ⟨ob0p, h⟩ := chk_some h
      have ob0 : 0 ≤ (n2 : Int) ∧ (n2 : Int) < (((x1).length : Nat) : Int) := ⟨by omega, ob0p⟩
      refine q1rr [] [] [3, 5, 6, 7, 8] [] ⟨18, [(3, .int .i64 (0 : Int)), (5, .int .i64 (x1.getD n2 0)), (6, q1aI x1), (7, .int .i64 (((x1).length : Nat) : Int)), (8, .int .i64 (n2 : Int))], [], [], 0⟩ (an1 ob0) ?_
      refine thenQ_normal ?_
      refine q1rq [] [] [3, 5, 6, 7, 8, 14] [] ⟨18, [(3, .int .i64 (0 : Int)), (5, .int .i64 (x1.getD n2 0)), (6, q1aI x1), (7, .int .i64 (((x1).length : Nat) : Int)), (8, .int .i64 (n2 : Int)), (14, .bool ((x1.getD n2 0) != (0 : Int)))], [], [], 0⟩ trivial ?_
      refine AWp.cond (b := ((x1.getD n2 0) != (0 : Int))) (by kernel_rfl) (fun hc2 => ?_) (fun hc2 => ?_)
      ·
        replace h := ite_tb hc2 h
        refine q1rq [] [] [2] [] ⟨18, [(2, .int .i64 (x1.getD n2 0))], [], [], 0⟩ trivial ?_
        have hret := Option.some.inj h
        subst hret
        refine AWp.le (Le.mk (s' := ⟨18, [(2, .int .i64 (x1.getD n2 0))], [], [], 0⟩) rfl rfl ⟨.refl _, trivial⟩ trivial) ?_
        refine AWp.ret ?_
        refine blockQ_ret ?_
        refine thenQ_ret ?_
        refine thenQ_ret ?_
        refine blockQ_ret ?_
        refine joinQ_ret ?_
        exact bodyQ_ret _ rfl ⟨rfl, rfl⟩ rfl
      ·
        replace h := ite_fb hc2 h
        refine AWp.skip ?_
        refine blockQ_normal ?_
        refine thenQ_normal ?_
        obtain ⟨ob1p, h⟩ := chk_some h
        have ob1 : -9223372036854775808 ≤ ((n2 : Int) + (1 : Int)) ∧ ((n2 : Int) + (1 : Int)) ≤ 9223372036854775807 := ⟨by omega, ob1p⟩
        refine q1rr [] [] [3, 6, 7, 8] [] ⟨18, [(3, .int .i64 (0 : Int)), (6, q1aI x1), (7, .int .i64 (((x1).length : Nat) : Int)), (8, .int .i64 (((n2 + 1) : Nat) : Int))], [], [], 0⟩ (an1 ob1) ?_
        rw [hC0] at h
        exact loopQ_normal (_, (n2 + 1)) (Le.mk rfl rfl ⟨.refl _, .refl _, .refl _, .refl _, trivial⟩ trivial) h (Nat.lt_succ_self _)
    ·
      replace h := ite_fb hc1 h
      refine AWp.exit ?_
      refine thenQ_exit ?_
      refine thenQ_exit ?_
      refine blockQ_same ?_
      exact joinQ_normal () (Le.mk rfl rfl ⟨.refl _, trivial⟩ trivial) h
  ·
    rintro ⟨⟩ h
    replace h := (congrFun hK1 _).symm.trans h
    refine q1rq [] [] [2] [] ⟨18, [(2, .int .i64 (0 : Int))], [], [], 0⟩ trivial ?_
    have hret := Option.some.inj h
    subst hret
    refine AWp.le (Le.mk (s' := ⟨18, [(2, .int .i64 (0 : Int))], [], [], 0⟩) rfl rfl ⟨.refl _, trivial⟩ trivial) ?_
    refine AWp.ret ?_
    exact bodyQ_ret _ rfl ⟨rfl, rfl⟩ rfl
def f65 (x1 : BitVec 16) (x2 : BitVec 16) : Option Int :=
  (f91 x1).bind fun (r3 : Int) =>
  (f91 x2).bind fun (r4 : Int) =>
  (f90 r3 r4).bind fun (r5 : Int) =>
  (f92 x1 x2).bind fun (r6 : Int) =>
  (f73 [r5, r6]).bind fun (r7 : Int) =>
  some r7
set_option maxRecDepth 100000 in
theorem f65_ok  (x1 : BitVec 16) (x2 : BitVec 16) (r : Int) (h : f65 x1 x2 = some r)  : Spec1 Tryz.prog 65 [] [] [] [.b16 x1, .b16 x2] (.int .i64 r) [] := by
  unfold f65 at h
  refine Spec1.body 0 _ _ Tryz.func65 rfl Tryz.ntmps65 rfl rfl ?_
  refine q1rq [] [] [0, 1] [] ⟨15, [(0, .b16 x1), (1, .b16 x2)], [], [], 0⟩ trivial ?_
  refine AWp.seq ?_
  obtain ⟨r3, hr3, h⟩ := bind_ok h
  obtain ⟨r4, hr4, h⟩ := bind_ok h
  obtain ⟨r5, hr5, h⟩ := bind_ok h
  obtain ⟨r6, hr6, h⟩ := bind_ok h
  obtain ⟨r7, hr7, h⟩ := bind_ok h
  refine q1rr [] [(1, ⟨[.b16 x1], [], [], [], .int .i64 r3, [], [], []⟩), (3, ⟨[.b16 x2], [], [], [], .int .i64 r4, [], [], []⟩), (4, ⟨[.int .i64 r3, .int .i64 r4], [], [], [], .int .i64 r5, [], [], []⟩), (7, ⟨[.b16 x1, .b16 x2], [], [], [], .int .i64 r6, [], [], []⟩), (9, ⟨[q1aI [r5, r6]], [], [], [], .int .i64 r7, [], [13], []⟩)] [4] [] ⟨15, [(4, .int .i64 r7)], [], [], 0⟩ (an5 (cpT (f91_ok _ _ hr3)) (cpT (f91_ok _ _ hr4)) (cpT (f90_ok _ _ _ hr5)) (cpT (f92_ok _ _ _ hr6)) (cpL (c := true) [(13, .rows 3 1 2 (lstF 1 [.int .i64 r5, .int .i64 r6]))] [13] [.own 13] (fun _ => (f73_ok _ _ hr7)) (fun _ => ⟨(VLe.of (RL.lst (enc := eI) [r5, r6] rfl rfl (fun _ => rfl))), trivial⟩) (.inr ⟨rfl, trivial⟩))) ?_
  refine thenQ_normal ?_
  have hret := Option.some.inj h
  subst hret
  refine AWp.le (Le.mk (s' := ⟨15, [(4, .int .i64 r7)], [], [], 0⟩) rfl rfl ⟨.refl _, trivial⟩ trivial) ?_
  refine AWp.ret ?_
  exact bodyQ_ret _ rfl ⟨rfl, rfl⟩ rfl
def f43 (x1 : BitVec 16) (x2 : BitVec 16) (x3 : BitVec 16) (x4 : BitVec 16) : Option Int :=
  (f65 x1 x3).bind fun (r5 : Int) =>
  (f65 x2 x4).bind fun (r6 : Int) =>
  (f73 [r5, r6]).bind fun (r7 : Int) =>
  some r7
set_option maxRecDepth 100000 in
theorem f43_ok  (x1 : BitVec 16) (x2 : BitVec 16) (x3 : BitVec 16) (x4 : BitVec 16) (r : Int) (h : f43 x1 x2 x3 x4 = some r)  : Spec1 Tryz.prog 43 [] [] [] [.agg [.b16 x1, .b16 x2], .agg [.b16 x3, .b16 x4]] (.int .i64 r) [] := by
  unfold f43 at h
  refine Spec1.body 0 _ _ Tryz.func43 rfl Tryz.ntmps43 rfl rfl ?_
  refine q1rq [] [] [2, 3] [2, 3] ⟨17, [(2, .ptr 2 0), (3, .ptr 3 0)], [(2, .cells 30 [.b16 x1, .b16 x2]), (3, .cells 30 [.b16 x3, .b16 x4])], [], 0⟩ trivial ?_
  refine AWp.seq ?_
  obtain ⟨r5, hr5, h⟩ := bind_ok h
  obtain ⟨r6, hr6, h⟩ := bind_ok h
  obtain ⟨r7, hr7, h⟩ := bind_ok h
  refine q1rr [] [(4, ⟨[.b16 x1, .b16 x3], [], [], [], .int .i64 r5, [], [], []⟩), (9, ⟨[.b16 x2, .b16 x4], [], [], [], .int .i64 r6, [], [], []⟩), (11, ⟨[q1aI [r5, r6]], [], [], [], .int .i64 r7, [], [15], []⟩)] [4] [] ⟨17, [(4, .int .i64 r7)], [], [], 0⟩ (an3 (cpT (f65_ok _ _ _ hr5)) (cpT (f65_ok _ _ _ hr6)) (cpL (c := true) [(15, .rows 3 1 2 (lstF 1 [.int .i64 r5, .int .i64 r6]))] [15] [.own 15] (fun _ => (f73_ok _ _ hr7)) (fun _ => ⟨(VLe.of (RL.lst (enc := eI) [r5, r6] rfl rfl (fun _ => rfl))), trivial⟩) (.inr ⟨rfl, trivial⟩))) ?_
  refine thenQ_normal ?_
  have hret := Option.some.inj h
  subst hret
  refine AWp.le (Le.mk (s' := ⟨17, [(4, .int .i64 r7)], [], [], 0⟩) rfl rfl ⟨.refl _, trivial⟩ trivial) ?_
  refine AWp.ret ?_
  exact bodyQ_ret _ rfl ⟨rfl, rfl⟩ rfl
end Go.Abs
