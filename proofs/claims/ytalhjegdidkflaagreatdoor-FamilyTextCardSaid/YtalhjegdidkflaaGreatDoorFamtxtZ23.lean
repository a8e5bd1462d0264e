/- Part 23 of the proof: XC8t, PlC8t. -/
import Derived.Test.YtalhjegdidkflaaGreatDoorFamtxtZ22
import Derived.Test.YtalhjegdidkflaaGreatDoorProg
namespace Go.Abs
open Go Go.Proofs
set_option maxHeartbeats 4000000
theorem Tryz_mixed : Tryz.prog.follows .mixedOrders = true := by kernel_rfl
def T1 : List Nat := [0, 1, 28, 2, 29, 14, 24, 3, 30, 22, 20, 15, 25, 17, 4, 8, 31, 27, 13, 23, 21, 19, 16, 7, 26, 12, 18, 6, 11, 5, 10, 9]
def T1F : Nat → Nat → V := fun _ j => .int .u8 ((T1.getD j 0 : Nat) : Int)
def T5 : List Nat := [0, 1, 56, 2, 57, 49, 28, 3, 61, 58, 42, 50, 38, 29, 17, 4, 62, 47, 59, 36, 45, 43, 51, 22, 53, 39, 33, 30, 24, 18, 12, 5, 63, 55, 48, 27, 60, 41, 37, 16, 46, 35, 44, 21, 52, 32, 23, 11, 54, 26, 40, 15, 34, 20, 31, 10, 25, 14, 19, 9, 13, 8, 7, 6]
def T4 : List Nat := [1, 10, 100, 1000, 10000, 100000, 1000000, 10000000, 100000000, 1000000000, 10000000000, 100000000000, 1000000000000, 10000000000000, 100000000000000, 1000000000000000, 10000000000000000, 100000000000000000, 1000000000000000000, 10000000000000000000]
def cs0 : List UInt8 := [0, 1, 1, 2, 1, 2, 2, 3, 1, 2, 2, 3, 2, 3, 3, 4, 1, 2, 2, 3, 2, 3, 3, 4, 2, 3, 3, 4, 3, 4, 4, 5, 1, 2, 2, 3, 2, 3, 3, 4, 2, 3, 3, 4, 3, 4, 4, 5, 2, 3, 3, 4, 3, 4, 4, 5, 3, 4, 4, 5, 4, 5, 5, 6, 1, 2, 2, 3, 2, 3, 3, 4, 2, 3, 3, 4, 3, 4, 4, 5, 2, 3, 3, 4, 3, 4, 4, 5, 3, 4, 4, 5, 4, 5, 5, 6, 2, 3, 3, 4, 3, 4, 4, 5, 3, 4, 4, 5, 4, 5, 5, 6, 3, 4, 4, 5, 4, 5, 5, 6, 4, 5, 5, 6, 5, 6, 6, 7, 1, 2, 2, 3, 2, 3, 3, 4, 2, 3, 3, 4, 3, 4, 4, 5, 2, 3, 3, 4, 3, 4, 4, 5, 3, 4, 4, 5, 4, 5, 5, 6, 2, 3, 3, 4, 3, 4, 4, 5, 3, 4, 4, 5, 4, 5, 5, 6, 3, 4, 4, 5, 4, 5, 5, 6, 4, 5, 5, 6, 5, 6, 6, 7, 2, 3, 3, 4, 3, 4, 4, 5, 3, 4, 4, 5, 4, 5, 5, 6, 3, 4, 4, 5, 4, 5, 5, 6, 4, 5, 5, 6, 5, 6, 6, 7, 3, 4, 4, 5, 4, 5, 5, 6, 4, 5, 5, 6, 5, 6, 6, 7, 4, 5, 5, 6, 5, 6, 6, 7, 5, 6, 6, 7, 6, 7, 7, 8]
def eI (x : Int) : List V := [.int .i64 x]
abbrev q1aI (l : List (Int)) : V := vL 1 eI 0 l
abbrev q1w16 (i : Int) : BitVec 16 := BitVec.ofInt 16 i
theorem q1rq {Q : Exit → S → Prop} {id : Nat} {draw : Bool} {y : Code} (W : List Nat) (calls : List (Nat × CC)) {l : List Oper} {s : S} (s' : S) {φ : Prop} (hφ : φ) (hQ : AWp Tryz.prog y Q s') (h : Abs.regC Tryz.prog W draw calls (s'.t.map (·.1)) (s'.h.map (·.1)) l s = some (s', φ) := by kernel_rfl) : AWp Tryz.prog (.seq (.region id l.toArray draw) y) Q s := AWp.sq W calls _ _ s' φ Tryz_mixed h hφ hQ
theorem q1rr {Q : Exit → S → Prop} {id : Nat} {draw : Bool} (W : List Nat) (calls : List (Nat × CC)) {l : List Oper} {s : S} (s' : S) {φ : Prop} (hφ : φ) (hQ : Q .normal s') (h : Abs.regC Tryz.prog W draw calls (s'.t.map (·.1)) (s'.h.map (·.1)) l s = some (s', φ) := by kernel_rfl) : AWp Tryz.prog (.region id l.toArray draw) Q s := AWp.regC W calls _ _ s' φ Tryz_mixed h hφ hQ
def f80 (x1 : BitVec 16) : Option Int :=
  chk ((((x1 >>> 8).toNat : Nat) : Int) < ((cs0.length : Nat) : Int)) <|
  chk ((((x1 &&& (BitVec.ofInt 16 255)).toNat : Nat) : Int) < ((cs0.length : Nat) : Int)) <|
  chk (((((cs0.getD ((x1 >>> 8).toNat) 0).toNat : Nat) : Int) + (((cs0.getD ((x1 &&& (BitVec.ofInt 16 255)).toNat) 0).toNat : Nat) : Int)) ≤ 255) <|
  chk (((((cs0.getD ((x1 >>> 8).toNat) 0).toNat + (cs0.getD ((x1 &&& (BitVec.ofInt 16 255)).toNat) 0).toNat) : Nat) : Int) ≤ 9223372036854775807) <|
  some ((((cs0.getD ((x1 >>> 8).toNat) 0).toNat + (cs0.getD ((x1 &&& (BitVec.ofInt 16 255)).toNat) 0).toNat) : Nat) : Int)
set_option maxRecDepth 100000 in
theorem f80_ok  (x1 : BitVec 16) (r : Int) (h : f80 x1 = some r)  : Spec1 Tryz.prog 80 [] [] [] [.b16 x1] (.int .i64 r) [] := by
  unfold f80 at h
  refine Spec1.body 0 _ _ Tryz.func80 rfl Tryz.ntmps80 rfl rfl ?_
  refine q1rq [] [] ⟨11, [(0, .b16 x1)], [], [], 0⟩ trivial ?_
  refine AWp.seq ?_
  have ob0 : 0 ≤ (8 : Int) := by first | decide | omega | simp | (intro h; cases h)
  obtain ⟨ob1p, h⟩ := chk_some h
  have ob1 : 0 ≤ (((x1 >>> 8).toNat : Nat) : Int) ∧ (((x1 >>> 8).toNat : Nat) : Int) < ((cs0.length : Nat) : Int) := ⟨by omega, ob1p⟩
  obtain ⟨ob2p, h⟩ := chk_some h
  have ob2 : 0 ≤ (((x1 &&& (q1w16 255)).toNat : Nat) : Int) ∧ (((x1 &&& (q1w16 255)).toNat : Nat) : Int) < ((cs0.length : Nat) : Int) := ⟨by omega, ob2p⟩
  obtain ⟨ob3p, h⟩ := chk_some h
  have ob3 : 0 ≤ ((((cs0.getD ((x1 >>> 8).toNat) 0).toNat : Nat) : Int) + (((cs0.getD ((x1 &&& (q1w16 255)).toNat) 0).toNat : Nat) : Int)) ∧ ((((cs0.getD ((x1 >>> 8).toNat) 0).toNat : Nat) : Int) + (((cs0.getD ((x1 &&& (q1w16 255)).toNat) 0).toNat : Nat) : Int)) ≤ 255 := ⟨by omega, ob3p⟩
  obtain ⟨ob4p, h⟩ := chk_some h
  have ob4 : -9223372036854775808 ≤ ((((cs0.getD ((x1 >>> 8).toNat) 0).toNat + (cs0.getD ((x1 &&& (q1w16 255)).toNat) 0).toNat) : Nat) : Int) ∧ ((((cs0.getD ((x1 >>> 8).toNat) 0).toNat + (cs0.getD ((x1 &&& (q1w16 255)).toNat) 0).toNat) : Nat) : Int) ≤ 9223372036854775807 := ⟨by omega, ob4p⟩
  refine q1rr [] [] ⟨11, [(2, .i ((((cs0.getD ((x1 >>> 8).toNat) 0).toNat + (cs0.getD ((x1 &&& (q1w16 255)).toNat) 0).toNat) : Nat) : Int))], [], [], 0⟩ (an5 ob0 ob1 ob2 ob3 ob4) ?_
  refine thenQ_normal ?_
  have hret := Option.some.inj h
  subst hret
  refine AWp.le (Le.mk (s' := ⟨11, [(2, .i ((((cs0.getD ((x1 >>> 8).toNat) 0).toNat + (cs0.getD ((x1 &&& (q1w16 255)).toNat) 0).toNat) : Nat) : Int))], [], [], 0⟩) rfl rfl ⟨.refl _, trivial⟩ trivial) ?_
  refine AWp.ret ?_
  exact bodyQ_ret _ rfl ⟨rfl, rfl⟩ rfl
def f62 (x1 : BitVec 16) : Option Int :=
  (f80 x1).bind fun (r2 : Int) =>
  some r2
set_option maxRecDepth 100000 in
theorem f62_ok  (x1 : BitVec 16) (r : Int) (h : f62 x1 = some r)  : Spec1 Tryz.prog 62 [] [] [] [.b16 x1] (.int .i64 r) [] := by
  unfold f62 at h
  refine Spec1.body 0 _ _ Tryz.func62 rfl Tryz.ntmps62 rfl rfl ?_
  refine q1rq [] [] ⟨5, [(0, .b16 x1)], [], [], 0⟩ trivial ?_
  refine AWp.seq ?_
  obtain ⟨r2, hr2, h⟩ := bind_ok h
  refine q1rr [] [(1, ⟨[.b16 x1], [], [], [], .i r2, [], [], []⟩)] ⟨5, [(2, .i r2)], [], [], 0⟩ (an1 (cpT (f80_ok _ _ hr2))) ?_
  refine thenQ_normal ?_
  have hret := Option.some.inj h
  subst hret
  refine AWp.le (Le.mk (s' := ⟨5, [(2, .i r2)], [], [], 0⟩) rfl rfl ⟨.refl _, trivial⟩ trivial) ?_
  refine AWp.ret ?_
  exact bodyQ_ret _ rfl ⟨rfl, rfl⟩ rfl
def f79 (x1 : Int) : Option Bool :=
  some (x1 != x1)
set_option maxRecDepth 100000 in
theorem f79_ok  (x1 : Int) (r : Bool) (h : f79 x1 = some r)  : Spec1 Tryz.prog 79 [] [] [] [.int .i64 x1] (.bool r) [] := by
  unfold f79 at h
  refine Spec1.body 0 _ _ Tryz.func79 rfl Tryz.ntmps79 rfl rfl ?_
  refine q1rq [] [] ⟨6, [(0, .i x1)], [], [], 0⟩ trivial ?_
  refine q1rq [] [] ⟨6, [(2, .bool (x1 != x1))], [], [], 0⟩ trivial ?_
  have hret := Option.some.inj h
  subst hret
  refine AWp.le (Le.mk (s' := ⟨6, [(2, .bool (x1 != x1))], [], [], 0⟩) rfl rfl ⟨.refl _, trivial⟩ trivial) ?_
  refine AWp.ret ?_
  exact bodyQ_ret _ rfl ⟨rfl, rfl⟩ rfl
def f61 (x1 : Int) (x2 : Int) : Option Int :=
  (f79 x1).bind fun (r3 : Bool) =>
  (f79 x2).bind fun (r4 : Bool) =>
  if r3 then (
  if r4 then (
  some (0 : Int)
  ) else (
  some (-1 : Int)
  )
  ) else (
  if r4 then (
  some (1 : Int)
  ) else (
  if (decide (x1 < x2)) then (
  some (-1 : Int)
  ) else (
  if (decide (x1 > x2)) then (
  some (1 : Int)
  ) else (
  some (0 : Int)
  )
  )
  )
  )
set_option maxRecDepth 100000 in
theorem f61_ok  (x1 : Int) (x2 : Int) (r : Int) (h : f61 x1 x2 = some r)  : Spec1 Tryz.prog 61 [] [] [] [.int .i64 x1, .int .i64 x2] (.int .i64 r) [] := by
  unfold f61 at h
  refine Spec1.body 0 _ _ Tryz.func61 rfl Tryz.ntmps61 rfl rfl ?_
  refine q1rq [] [] ⟨20, [(0, .i x1), (1, .i x2)], [], [], 0⟩ trivial ?_
  refine AWp.seq ?_
  obtain ⟨r3, hr3, h⟩ := bind_ok h
  refine q1rr [] [(1, ⟨[.i x1], [], [], [], .bool r3, [], [], []⟩)] ⟨20, [(0, .i x1), (1, .i x2), (5, .bool r3)], [], [], 0⟩ (an1 (cpT (f79_ok _ _ hr3))) ?_
  refine thenQ_normal ?_
  refine AWp.seq ?_
  obtain ⟨r4, hr4, h⟩ := bind_ok h
  refine q1rr [] [(1, ⟨[.i x2], [], [], [], .bool r4, [], [], []⟩)] ⟨20, [(0, .i x1), (1, .i x2), (5, .bool r3), (6, .bool r4)], [], [], 0⟩ (an1 (cpT (f79_ok _ _ hr4))) ?_
  refine thenQ_normal ?_
  refine AWp.seq ?_
  refine q1rq [] [] ⟨20, [(0, .i x1), (1, .i x2), (6, .bool r4), (11, .bool r3)], [], [], 0⟩ trivial ?_
  refine AWp.cond (b := r3) (by kernel_rfl) (fun hc1 => ?_) (fun hc1 => ?_)
  ·
    replace h := ite_tb hc1 h
    refine AWp.seq ?_
    refine q1rq [] [] ⟨20, [(12, .bool r4)], [], [], 0⟩ trivial ?_
    refine AWp.cond (b := r4) (by kernel_rfl) (fun hc2 => ?_) (fun hc2 => ?_)
    ·
      replace h := ite_tb hc2 h
      refine q1rq [] [] ⟨20, [(4, .i (0 : Int))], [], [], 0⟩ trivial ?_
      have hret := Option.some.inj h
      subst hret
      refine AWp.le (Le.mk (s' := ⟨20, [(4, .i (0 : Int))], [], [], 0⟩) rfl rfl ⟨.refl _, trivial⟩ trivial) ?_
      refine AWp.ret ?_
      refine thenQ_ret ?_
      refine thenQ_ret ?_
      exact bodyQ_ret _ rfl ⟨rfl, rfl⟩ rfl
    ·
      replace h := ite_fb hc2 h
      refine AWp.skip ?_
      refine thenQ_normal ?_
      refine q1rq [] [] ⟨20, [(4, .i (-1 : Int))], [], [], 0⟩ trivial ?_
      have hret := Option.some.inj h
      subst hret
      refine AWp.le (Le.mk (s' := ⟨20, [(4, .i (-1 : Int))], [], [], 0⟩) rfl rfl ⟨.refl _, trivial⟩ trivial) ?_
      refine AWp.ret ?_
      refine thenQ_ret ?_
      exact bodyQ_ret _ rfl ⟨rfl, rfl⟩ rfl
  ·
    replace h := ite_fb hc1 h
    refine AWp.skip ?_
    refine thenQ_normal ?_
    refine AWp.seq ?_
    refine q1rq [] [] ⟨20, [(0, .i x1), (1, .i x2), (13, .bool r4)], [], [], 0⟩ trivial ?_
    refine AWp.cond (b := r4) (by kernel_rfl) (fun hc3 => ?_) (fun hc3 => ?_)
    ·
      replace h := ite_tb hc3 h
      refine q1rq [] [] ⟨20, [(4, .i (1 : Int))], [], [], 0⟩ trivial ?_
      have hret := Option.some.inj h
      subst hret
      refine AWp.le (Le.mk (s' := ⟨20, [(4, .i (1 : Int))], [], [], 0⟩) rfl rfl ⟨.refl _, trivial⟩ trivial) ?_
      refine AWp.ret ?_
      refine thenQ_ret ?_
      exact bodyQ_ret _ rfl ⟨rfl, rfl⟩ rfl
    ·
      replace h := ite_fb hc3 h
      refine AWp.skip ?_
      refine thenQ_normal ?_
      refine AWp.seq ?_
      refine q1rq [] [] ⟨20, [(0, .i x1), (1, .i x2), (16, .bool (decide (x1 < x2)))], [], [], 0⟩ trivial ?_
      refine AWp.cond (b := (decide (x1 < x2))) (by kernel_rfl) (fun hc4 => ?_) (fun hc4 => ?_)
      ·
        replace h := ite_tb hc4 h
        refine q1rq [] [] ⟨20, [(4, .i (-1 : Int))], [], [], 0⟩ trivial ?_
        have hret := Option.some.inj h
        subst hret
        refine AWp.le (Le.mk (s' := ⟨20, [(4, .i (-1 : Int))], [], [], 0⟩) rfl rfl ⟨.refl _, trivial⟩ trivial) ?_
        refine AWp.ret ?_
        refine thenQ_ret ?_
        exact bodyQ_ret _ rfl ⟨rfl, rfl⟩ rfl
      ·
        replace h := ite_fb hc4 h
        refine AWp.skip ?_
        refine thenQ_normal ?_
        refine AWp.seq ?_
        refine q1rq [] [] ⟨20, [(19, .bool (decide (x1 > x2)))], [], [], 0⟩ trivial ?_
        refine AWp.cond (b := (decide (x1 > x2))) (by kernel_rfl) (fun hc5 => ?_) (fun hc5 => ?_)
        ·
          replace h := ite_tb hc5 h
          refine q1rq [] [] ⟨20, [(4, .i (1 : Int))], [], [], 0⟩ trivial ?_
          have hret := Option.some.inj h
          subst hret
          refine AWp.le (Le.mk (s' := ⟨20, [(4, .i (1 : Int))], [], [], 0⟩) rfl rfl ⟨.refl _, trivial⟩ trivial) ?_
          refine AWp.ret ?_
          refine thenQ_ret ?_
          exact bodyQ_ret _ rfl ⟨rfl, rfl⟩ rfl
        ·
          replace h := ite_fb hc5 h
          refine AWp.skip ?_
          refine thenQ_normal ?_
          refine q1rq [] [] ⟨20, [(4, .i (0 : Int))], [], [], 0⟩ trivial ?_
          have hret := Option.some.inj h
          subst hret
          refine AWp.le (Le.mk (s' := ⟨20, [(4, .i (0 : Int))], [], [], 0⟩) rfl rfl ⟨.refl _, trivial⟩ trivial) ?_
          refine AWp.ret ?_
          exact bodyQ_ret _ rfl ⟨rfl, rfl⟩ rfl
def f81 (x1 : BitVec 16) : Option Bool :=
  some (!(x1 == x1))
set_option maxRecDepth 100000 in
theorem f81_ok  (x1 : BitVec 16) (r : Bool) (h : f81 x1 = some r)  : Spec1 Tryz.prog 81 [] [] [] [.b16 x1] (.bool r) [] := by
  unfold f81 at h
  refine Spec1.body 0 _ _ Tryz.func81 rfl Tryz.ntmps81 rfl rfl ?_
  refine q1rq [] [] ⟨6, [(0, .b16 x1)], [], [], 0⟩ trivial ?_
  refine q1rq [] [] ⟨6, [(2, .bool (!(x1 == x1)))], [], [], 0⟩ trivial ?_
  have hret := Option.some.inj h
  subst hret
  refine AWp.le (Le.mk (s' := ⟨6, [(2, .bool (!(x1 == x1)))], [], [], 0⟩) rfl rfl ⟨.refl _, trivial⟩ trivial) ?_
  refine AWp.ret ?_
  exact bodyQ_ret _ rfl ⟨rfl, rfl⟩ rfl
def f63 (x1 : BitVec 16) (x2 : BitVec 16) : Option Int :=
  (f81 x1).bind fun (r3 : Bool) =>
  (f81 x2).bind fun (r4 : Bool) =>
  if r3 then (
  if r4 then (
  some (0 : Int)
  ) else (
  some (-1 : Int)
  )
  ) else (
  if r4 then (
  some (1 : Int)
  ) else (
  if (decide (x1.toNat < x2.toNat)) then (
  some (-1 : Int)
  ) else (
  if (decide (x1.toNat > x2.toNat)) then (
  some (1 : Int)
  ) else (
  some (0 : Int)
  )
  )
  )
  )
set_option maxRecDepth 100000 in
theorem f63_ok  (x1 : BitVec 16) (x2 : BitVec 16) (r : Int) (h : f63 x1 x2 = some r)  : Spec1 Tryz.prog 63 [] [] [] [.b16 x1, .b16 x2] (.int .i64 r) [] := by
  unfold f63 at h
  refine Spec1.body 0 _ _ Tryz.func63 rfl Tryz.ntmps63 rfl rfl ?_
  refine q1rq [] [] ⟨20, [(0, .b16 x1), (1, .b16 x2)], [], [], 0⟩ trivial ?_
  refine AWp.seq ?_
  obtain ⟨r3, hr3, h⟩ := bind_ok h
  refine q1rr [] [(1, ⟨[.b16 x1], [], [], [], .bool r3, [], [], []⟩)] ⟨20, [(0, .b16 x1), (1, .b16 x2), (5, .bool r3)], [], [], 0⟩ (an1 (cpT (f81_ok _ _ hr3))) ?_
  refine thenQ_normal ?_
  refine AWp.seq ?_
  obtain ⟨r4, hr4, h⟩ := bind_ok h
  refine q1rr [] [(1, ⟨[.b16 x2], [], [], [], .bool r4, [], [], []⟩)] ⟨20, [(0, .b16 x1), (1, .b16 x2), (5, .bool r3), (6, .bool r4)], [], [], 0⟩ (an1 (cpT (f81_ok _ _ hr4))) ?_
  refine thenQ_normal ?_
  refine AWp.seq ?_
  refine q1rq [] [] ⟨20, [(0, .b16 x1), (1, .b16 x2), (6, .bool r4), (11, .bool r3)], [], [], 0⟩ trivial ?_
  refine AWp.cond (b := r3) (by kernel_rfl) (fun hc1 => ?_) (fun hc1 => ?_)
  ·
    replace h := ite_tb hc1 h
    refine AWp.seq ?_
    refine q1rq [] [] ⟨20, [(12, .bool r4)], [], [], 0⟩ trivial ?_
    refine AWp.cond (b := r4) (by kernel_rfl) (fun hc2 => ?_) (fun hc2 => ?_)
    ·
      replace h := ite_tb hc2 h
      refine q1rq [] [] ⟨20, [(4, .i (0 : Int))], [], [], 0⟩ trivial ?_
      have hret := Option.some.inj h
      subst hret
      refine AWp.le (Le.mk (s' := ⟨20, [(4, .i (0 : Int))], [], [], 0⟩) rfl rfl ⟨.refl _, trivial⟩ trivial) ?_
      refine AWp.ret ?_
      refine thenQ_ret ?_
      refine thenQ_ret ?_
      exact bodyQ_ret _ rfl ⟨rfl, rfl⟩ rfl
    ·
      replace h := ite_fb hc2 h
      refine AWp.skip ?_
      refine thenQ_normal ?_
      refine q1rq [] [] ⟨20, [(4, .i (-1 : Int))], [], [], 0⟩ trivial ?_
      have hret := Option.some.inj h
      subst hret
      refine AWp.le (Le.mk (s' := ⟨20, [(4, .i (-1 : Int))], [], [], 0⟩) rfl rfl ⟨.refl _, trivial⟩ trivial) ?_
      refine AWp.ret ?_
      refine thenQ_ret ?_
      exact bodyQ_ret _ rfl ⟨rfl, rfl⟩ rfl
  ·
    replace h := ite_fb hc1 h
    refine AWp.skip ?_
    refine thenQ_normal ?_
    refine AWp.seq ?_
    refine q1rq [] [] ⟨20, [(0, .b16 x1), (1, .b16 x2), (13, .bool r4)], [], [], 0⟩ trivial ?_
    refine AWp.cond (b := r4) (by kernel_rfl) (fun hc3 => ?_) (fun hc3 => ?_)
    ·
      replace h := ite_tb hc3 h
      refine q1rq [] [] ⟨20, [(4, .i (1 : Int))], [], [], 0⟩ trivial ?_
      have hret := Option.some.inj h
      subst hret
      refine AWp.le (Le.mk (s' := ⟨20, [(4, .i (1 : Int))], [], [], 0⟩) rfl rfl ⟨.refl _, trivial⟩ trivial) ?_
      refine AWp.ret ?_
      refine thenQ_ret ?_
      exact bodyQ_ret _ rfl ⟨rfl, rfl⟩ rfl
    ·
      replace h := ite_fb hc3 h
      refine AWp.skip ?_
      refine thenQ_normal ?_
      refine AWp.seq ?_
      refine q1rq [] [] ⟨20, [(0, .b16 x1), (1, .b16 x2), (16, .bool (decide (x1.toNat < x2.toNat)))], [], [], 0⟩ trivial ?_
      refine AWp.cond (b := (decide (x1.toNat < x2.toNat))) (by kernel_rfl) (fun hc4 => ?_) (fun hc4 => ?_)
      ·
        replace h := ite_tb hc4 h
        refine q1rq [] [] ⟨20, [(4, .i (-1 : Int))], [], [], 0⟩ trivial ?_
        have hret := Option.some.inj h
        subst hret
        refine AWp.le (Le.mk (s' := ⟨20, [(4, .i (-1 : Int))], [], [], 0⟩) rfl rfl ⟨.refl _, trivial⟩ trivial) ?_
        refine AWp.ret ?_
        refine thenQ_ret ?_
        exact bodyQ_ret _ rfl ⟨rfl, rfl⟩ rfl
      ·
        replace h := ite_fb hc4 h
        refine AWp.skip ?_
        refine thenQ_normal ?_
        refine AWp.seq ?_
        refine q1rq [] [] ⟨20, [(19, .bool (decide (x1.toNat > x2.toNat)))], [], [], 0⟩ trivial ?_
        refine AWp.cond (b := (decide (x1.toNat > x2.toNat))) (by kernel_rfl) (fun hc5 => ?_) (fun hc5 => ?_)
        ·
          replace h := ite_tb hc5 h
          refine q1rq [] [] ⟨20, [(4, .i (1 : Int))], [], [], 0⟩ trivial ?_
          have hret := Option.some.inj h
          subst hret
          refine AWp.le (Le.mk (s' := ⟨20, [(4, .i (1 : Int))], [], [], 0⟩) rfl rfl ⟨.refl _, trivial⟩ trivial) ?_
          refine AWp.ret ?_
          refine thenQ_ret ?_
          exact bodyQ_ret _ rfl ⟨rfl, rfl⟩ rfl
        ·
          replace h := ite_fb hc5 h
          refine AWp.skip ?_
          refine thenQ_normal ?_
          refine q1rq [] [] ⟨20, [(4, .i (0 : Int))], [], [], 0⟩ trivial ?_
          have hret := Option.some.inj h
          subst hret
          refine AWp.le (Le.mk (s' := ⟨20, [(4, .i (0 : Int))], [], [], 0⟩) rfl rfl ⟨.refl _, trivial⟩ trivial) ?_
          refine AWp.ret ?_
          exact bodyQ_ret _ rfl ⟨rfl, rfl⟩ rfl
def f60_L0 (x1 : List Int) (K1 : Unit → Option Int) : Nat → Nat → Option Int
  | 0, _ => none
  | k + 1, n2 =>
    if (decide ((n2 : Int) < (((x1).length : Nat) : Int))) then (
    chk ((n2 : Int) < (((x1).length : Nat) : Int)) <|
    if ((x1.getD n2 0) != (0 : Int)) then (
    some (x1.getD n2 0)
    ) else (
    chk (((n2 : Int) + (1 : Int)) ≤ 9223372036854775807) <|
    (f60_L0 x1 K1 k) (n2 + 1)
    )
    ) else (
    K1 ()
    )
def f60 (x1 : List Int) : Option Int :=
  jn (fun (_ : Unit) =>
  some (0 : Int)
  ) fun (K1 : Unit → Option Int) =>
  f60_L0 x1 K1 FUEL 0
set_option maxRecDepth 100000 in
theorem f60_ok  (x1 : List Int) (r : Int) (h : f60 x1 = some r)  : Spec1 Tryz.prog 60 [] [] [] [vL 1 eI 0 x1] (.int .i64 r) [] := by
  unfold f60 at h
  refine Spec1.body 0 _ _ Tryz.func60 rfl Tryz.ntmps60 rfl rfl ?_
  refine q1rq [] [] ⟨18, [(0, q1aI x1)], [], [], 0⟩ trivial ?_
  refine q1rq [] [] ⟨18, [(0, q1aI x1), (3, .i (0 : Int))], [], [], 0⟩ trivial ?_
  obtain ⟨K1, hK1, h⟩ := jn_some h
  refine AWp.join (α := Unit) (fun (x : Unit) => match x with | () => ⟨18, [(3, .i (0 : Int))], [], [], 0⟩) (fun x => K1 x = some r) ?_ ?_
  ·
    refine q1rq [] [] ⟨18, [(3, .i (0 : Int)), (6, q1aI x1), (7, .i (lZ x1)), (8, .i (0 : Int))], [], [], 0⟩ trivial ?_
    refine AWp.block ?_
    refine AWp.loopL (α := Nat × Nat) (fun x => match x with | (_, n2) => ⟨18, [(3, .i (0 : Int)), (6, q1aI x1), (7, .i (lZ x1)), (8, .i (n2 : Int))], [], [], 0⟩) (fun x => f60_L0 x1 K1 x.1 x.2 = some r) (fun x => x.1) (FUEL, 0) (Le.mk (s' := ⟨18, [(3, .i (0 : Int)), (6, q1aI x1), (7, .i (lZ x1)), (8, .i (0 : Int))], [], [], 0⟩) rfl rfl ⟨.refl _, .refl _, .refl _, .refl _, trivial⟩ trivial) h ?_
    rintro ⟨k0, n2⟩ h
    cases k0 with
    | zero => exact nomatch (show (none : Option Int) = some r from h)
    | succ k0 =>
    obtain ⟨C0, hC0⟩ : ∃ C, C = f60_L0 x1 K1 k0 := ⟨_, rfl⟩
    replace h := (f60_L0.eq_2 ..).symm.trans h
    try rw [← hC0] at h
    refine q1rq [] [] ⟨18, [(3, .i (0 : Int)), (6, q1aI x1), (7, .i (lZ x1)), (8, .i (n2 : Int)), (9, .bool (decide ((n2 : Int) < (lZ x1))))], [], [], 0⟩ trivial ?_
    refine AWp.seq ?_
    refine AWp.cond (b := (decide ((n2 : Int) < (lZ x1)))) (by kernel_rfl) (fun hc1 => ?_) (fun hc1 => ?_)
    ·
      replace h := ite_tb hc1 h
      refine AWp.skip ?_
      refine thenQ_normal ?_
      refine AWp.seq ?_
      refine AWp.block ?_
      refine AWp.seq ?_
      obtain ⟨ob0p, h⟩ := chk_some h
      have ob0 : 0 ≤ (n2 : Int) ∧ (n2 : Int) < (((x1).length : Nat) : Int) := ⟨by omega, ob0p⟩
      refine q1rr [] [] ⟨18, [(3, .i (0 : Int)), (5, .i (x1.getD n2 0)), (6, q1aI x1), (7, .i (lZ x1)), (8, .i (n2 : Int))], [], [], 0⟩ (an1 ob0) ?_
      refine thenQ_normal ?_
      refine q1rq [] [] ⟨18, [(3, .i (0 : Int)), (5, .i (x1.getD n2 0)), (6, q1aI x1), (7, .i (lZ x1)), (8, .i (n2 : Int)), (14, .bool ((x1.getD n2 0) != (0 : Int)))], [], [], 0⟩ trivial ?_
      refine AWp.cond (b := ((x1.getD n2 0) != (0 : Int))) (by kernel_rfl) (fun hc2 => ?_) (fun hc2 => ?_)
      ·
        replace h := ite_tb hc2 h
        refine q1rq [] [] ⟨18, [(2, .i (x1.getD n2 0))], [], [], 0⟩ trivial ?_
        have hret := Option.some.inj h
        subst hret
        refine AWp.le (Le.mk (s' := ⟨18, [(2, .i (x1.getD n2 0))], [], [], 0⟩) rfl rfl ⟨.refl _, trivial⟩ trivial) ?_
        refine AWp.ret ?_
        refine blockQ_ret ?_
        refine thenQ_ret ?_
        refine thenQ_ret ?_
        refine blockQ_ret ?_
        refine joinQ_ret ?_
        exact bodyQ_ret _ rfl ⟨rfl, rfl⟩ rfl
      ·
        replace h := ite_fb hc2 h
        refine AWp.skip ?_
        refine blockQ_normal ?_
        refine thenQ_normal ?_
        obtain ⟨ob1p, h⟩ := chk_some h
        have ob1 : -9223372036854775808 ≤ ((n2 : Int) + (1 : Int)) ∧ ((n2 : Int) + (1 : Int)) ≤ 9223372036854775807 := ⟨by omega, ob1p⟩
        refine q1rr [] [] ⟨18, [(3, .i (0 : Int)), (6, q1aI x1), (7, .i (lZ x1)), (8, .i (((n2 + 1) : Nat) : Int))], [], [], 0⟩ (an1 ob1) ?_
        rw [hC0] at h
        exact loopQ_normal (_, (n2 + 1)) (Le.mk rfl rfl ⟨.refl _, .refl _, .refl _, .refl _, trivial⟩ trivial) h (Nat.lt_succ_self _)
    ·
      replace h := ite_fb hc1 h
      refine AWp.exit ?_
      refine thenQ_exit ?_
      refine thenQ_exit ?_
      refine blockQ_same ?_
      exact joinQ_normal () (Le.mk rfl rfl ⟨.refl _, trivial⟩ trivial) h
  ·
    rintro ⟨⟩ h
    replace h := (congrFun hK1 _).symm.trans h
    refine q1rq [] [] ⟨18, [(2, .i (0 : Int))], [], [], 0⟩ trivial ?_
    have hret := Option.some.inj h
    subst hret
    refine AWp.le (Le.mk (s' := ⟨18, [(2, .i (0 : Int))], [], [], 0⟩) rfl rfl ⟨.refl _, trivial⟩ trivial) ?_
    refine AWp.ret ?_
    exact bodyQ_ret _ rfl ⟨rfl, rfl⟩ rfl
def f40 (x1 : BitVec 16) (x2 : BitVec 16) : Option Int :=
  (f62 x1).bind fun (r3 : Int) =>
  (f62 x2).bind fun (r4 : Int) =>
  (f61 r3 r4).bind fun (r5 : Int) =>
  (f63 x1 x2).bind fun (r6 : Int) =>
  (f60 [r5, r6]).bind fun (r7 : Int) =>
  some r7
set_option maxRecDepth 100000 in
theorem f40_ok  (x1 : BitVec 16) (x2 : BitVec 16) (r : Int) (h : f40 x1 x2 = some r)  : Spec1 Tryz.prog 40 [] [] [] [.b16 x1, .b16 x2] (.int .i64 r) [] := by
  unfold f40 at h
  refine Spec1.body 0 _ _ Tryz.func40 rfl Tryz.ntmps40 rfl rfl ?_
  refine q1rq [] [] ⟨15, [(0, .b16 x1), (1, .b16 x2)], [], [], 0⟩ trivial ?_
  refine AWp.seq ?_
  obtain ⟨r3, hr3, h⟩ := bind_ok h
  obtain ⟨r4, hr4, h⟩ := bind_ok h
  obtain ⟨r5, hr5, h⟩ := bind_ok h
  obtain ⟨r6, hr6, h⟩ := bind_ok h
  obtain ⟨r7, hr7, h⟩ := bind_ok h
  refine q1rr [] [(1, ⟨[.b16 x1], [], [], [], .i r3, [], [], []⟩), (3, ⟨[.b16 x2], [], [], [], .i r4, [], [], []⟩), (4, ⟨[.i r3, .i r4], [], [], [], .i r5, [], [], []⟩), (7, ⟨[.b16 x1, .b16 x2], [], [], [], .i r6, [], [], []⟩), (9, ⟨[q1aI [r5, r6]], [], [], [], .i r7, [], [13], []⟩)] ⟨15, [(4, .i r7)], [], [], 0⟩ (an5 (cpT (f62_ok _ _ hr3)) (cpT (f62_ok _ _ hr4)) (cpT (f61_ok _ _ _ hr5)) (cpT (f63_ok _ _ _ hr6)) (cpL (c := true) [(13, .rows 3 1 2 (lstF 1 [.i r5, .i r6]))] [13] [.own 13] (fun _ => (f60_ok _ _ hr7)) (fun _ => ⟨(VLe.of (RL.lst (enc := eI) [r5, r6] rfl rfl (fun _ => rfl))), trivial⟩) (.inr ⟨rfl, trivial⟩))) ?_
  refine thenQ_normal ?_
  have hret := Option.some.inj h
  subst hret
  refine AWp.le (Le.mk (s' := ⟨15, [(4, .i r7)], [], [], 0⟩) rfl rfl ⟨.refl _, trivial⟩ trivial) ?_
  refine AWp.ret ?_
  exact bodyQ_ret _ rfl ⟨rfl, rfl⟩ rfl
end Go.Abs
namespace Go.Abs
theorem bit_toNat (x : BitVec 16) (i : Nat) : ((x >>> i) &&& (BitVec.ofInt 16 1)).toNat = x.toNat / 2 ^ i % 2 := by
  rw [BitVec.toNat_and, BitVec.toNat_ushiftRight, Nat.shiftRight_eq_div_pow]
  exact Nat.and_one_is_mod _
theorem cs0_at (b : Nat) (h : b < 256) : (cs0.getD b 0).toNat = bsum b 0 8 := pop8_at b h
theorem f80_eq (x : BitVec 16) : f80 x = some (sz x : Int) := by
  have h1 : (x >>> 8).toNat = x.toNat / 256 := by rw [BitVec.toNat_ushiftRight, Nat.shiftRight_eq_div_pow]
  have h2 : (x &&& (BitVec.ofInt 16 255)).toNat = x.toNat % 256 := by
    rw [BitVec.toNat_and]
    exact Nat.and_two_pow_sub_one_eq_mod x.toNat 8
  have hx := x.isLt
  have hl : cs0.length = 256 := by kernel_rfl
  have e1 := cs0_at (x.toNat / 256) (by omega)
  have e2 := cs0_at (x.toNat % 256) (by omega)
  have l1 := bsum_le (x.toNat / 256) 8 0
  have l2 := bsum_le (x.toNat % 256) 8 0
  unfold f80 chk
  rw [h1, h2, e1, e2, hl, if_pos (by omega), if_pos (by omega), if_pos (by omega), if_pos (by omega), bsum_split]
  rfl
theorem f62_eq (x : BitVec 16) : f62 x = some (sz x : Int) := by
  unfold f62; rw [f80_eq]; rfl
theorem f61_eq (a b : Int) : f61 a b = some (cmpI a b) := by
  unfold f61 f79 cmpI
  simp
  split
  · rfl
  · split <;> rfl
theorem f63_eq (a b : BitVec 16) : f63 a b = some (cmpI a.toNat b.toNat) := by
  unfold f63 f81 cmpI
  simp
  split
  · rfl
  · split <;> rfl
theorem f60_eq (a b : Int) : f60 [a, b] = some (if a ≠ 0 then a else b) := by
  unfold f60 jn
  dsimp only
  obtain ⟨k, hk⟩ : ∃ k, FUEL = k + 1 + 1 + 1 := ⟨FUEL - 3, by unfold FUEL; rfl⟩
  rw [hk, f60_L0.eq_2, if_pos (by simp)]
  unfold chk
  rw [if_pos (by simp)]
  by_cases ha : a = 0
  · subst ha
    simp only [List.getD_cons_zero, bne_self_eq_false, Bool.false_eq_true, if_false]
    rw [if_pos (by omega), f60_L0.eq_2, if_pos (by simp)]
    unfold chk
    rw [if_pos (by simp)]
    by_cases hb : b = 0
    · subst hb
      simp only [Nat.zero_add, List.getD_cons_succ, List.getD_cons_zero, bne_self_eq_false, Bool.false_eq_true, if_false]
      rw [if_pos (by omega), f60_L0.eq_2, if_neg (by simp)]
      simp
    · simp [hb]
  · simp [ha]
theorem f40_eq' (a b : BitVec 16) : f40 a b = some (cmpS a b) := by
  unfold f40
  rw [f62_eq, f62_eq]
  simp only [Option.bind_some, f61_eq, f63_eq, f60_eq]
  rfl
theorem f40_eq (a b : BitVec 16) : ∃ c, f40 a b = some c ∧ ((c ≥ 0) ↔ ltS a b = false) := by
  refine ⟨_, f40_eq' a b, ?_⟩
  have := cmpS_lt a b
  rw [← this]
  simp
end Go.Abs
