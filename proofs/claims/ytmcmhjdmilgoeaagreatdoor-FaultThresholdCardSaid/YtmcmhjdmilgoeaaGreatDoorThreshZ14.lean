/- Part 14 of the proof: XC19, Pure1, Srt2, Fam, Fam2, FamF, PlC19. -/
import Derived.Test.YtmcmhjdmilgoeaaGreatDoorThreshZ13
import Derived.Test.YtmcmhjdmilgoeaaGreatDoorProg
namespace Go.Abs
open Go Go.Proofs
set_option maxHeartbeats 4000000
theorem Tryz_mixed : Tryz.prog.follows .mixedOrders = true := by kernel_rfl
def T0 : List Nat := [0, 1, 28, 2, 29, 14, 24, 3, 30, 22, 20, 15, 25, 17, 4, 8, 31, 27, 13, 23, 21, 19, 16, 7, 26, 12, 18, 6, 11, 5, 10, 9]
def T0F : Nat → Nat → V := fun _ j => .int .u8 ((T0.getD j 0 : Nat) : Int)
def T7 : List Nat := [0, 1, 56, 2, 57, 49, 28, 3, 61, 58, 42, 50, 38, 29, 17, 4, 62, 47, 59, 36, 45, 43, 51, 22, 53, 39, 33, 30, 24, 18, 12, 5, 63, 55, 48, 27, 60, 41, 37, 16, 46, 35, 44, 21, 52, 32, 23, 11, 54, 26, 40, 15, 34, 20, 31, 10, 25, 14, 19, 9, 13, 8, 7, 6]
def T6 : List Nat := [1, 10, 100, 1000, 10000, 100000, 1000000, 10000000, 100000000, 1000000000, 10000000000, 100000000000, 1000000000000, 10000000000000, 100000000000000, 1000000000000000, 10000000000000000, 100000000000000000, 1000000000000000000, 10000000000000000000]
def T6F : Nat → Nat → V := fun _ j => .int .u64 ((T6.getD j 0 : Nat) : Int)
def cs0 : List UInt8 := [0, 1, 1, 2, 1, 2, 2, 3, 1, 2, 2, 3, 2, 3, 3, 4, 1, 2, 2, 3, 2, 3, 3, 4, 2, 3, 3, 4, 3, 4, 4, 5, 1, 2, 2, 3, 2, 3, 3, 4, 2, 3, 3, 4, 3, 4, 4, 5, 2, 3, 3, 4, 3, 4, 4, 5, 3, 4, 4, 5, 4, 5, 5, 6, 1, 2, 2, 3, 2, 3, 3, 4, 2, 3, 3, 4, 3, 4, 4, 5, 2, 3, 3, 4, 3, 4, 4, 5, 3, 4, 4, 5, 4, 5, 5, 6, 2, 3, 3, 4, 3, 4, 4, 5, 3, 4, 4, 5, 4, 5, 5, 6, 3, 4, 4, 5, 4, 5, 5, 6, 4, 5, 5, 6, 5, 6, 6, 7, 1, 2, 2, 3, 2, 3, 3, 4, 2, 3, 3, 4, 3, 4, 4, 5, 2, 3, 3, 4, 3, 4, 4, 5, 3, 4, 4, 5, 4, 5, 5, 6, 2, 3, 3, 4, 3, 4, 4, 5, 3, 4, 4, 5, 4, 5, 5, 6, 3, 4, 4, 5, 4, 5, 5, 6, 4, 5, 5, 6, 5, 6, 6, 7, 2, 3, 3, 4, 3, 4, 4, 5, 3, 4, 4, 5, 4, 5, 5, 6, 3, 4, 4, 5, 4, 5, 5, 6, 4, 5, 5, 6, 5, 6, 6, 7, 3, 4, 4, 5, 4, 5, 5, 6, 4, 5, 5, 6, 5, 6, 6, 7, 4, 5, 5, 6, 5, 6, 6, 7, 5, 6, 6, 7, 6, 7, 7, 8]
def eI (x : Int) : List V := [.int .i64 x]
abbrev q1aI (l : List (Int)) : V := vL 1 eI 0 l
abbrev q1w16 (i : Int) : BitVec 16 := BitVec.ofInt 16 i
theorem q1rq {Q : Exit → S → Prop} {id : Nat} {draw : Bool} {y : Code} (W : List Nat) (calls : List (Nat × CC)) (ds rs : List Nat) {l : List Oper} {s : S} (s' : S) {φ : Prop} (hφ : φ) (hQ : AWp Tryz.prog y Q s') (h : Abs.regC Tryz.prog W draw calls ds rs l s = some (s', φ) := by kernel_rfl) : AWp Tryz.prog (.seq (.region id l.toArray draw) y) Q s := AWp.sq W calls ds rs s' φ Tryz_mixed h hφ hQ
theorem q1rr {Q : Exit → S → Prop} {id : Nat} {draw : Bool} (W : List Nat) (calls : List (Nat × CC)) (ds rs : List Nat) {l : List Oper} {s : S} (s' : S) {φ : Prop} (hφ : φ) (hQ : Q .normal s') (h : Abs.regC Tryz.prog W draw calls ds rs l s = some (s', φ) := by kernel_rfl) : AWp Tryz.prog (.region id l.toArray draw) Q s := AWp.regC W calls ds rs s' φ Tryz_mixed h hφ hQ
def f116 (x1 : BitVec 16) : Option Int :=
  chk ((((x1 >>> 8).toNat : Nat) : Int) < ((cs0.length : Nat) : Int)) <|
  chk ((((x1 &&& (BitVec.ofInt 16 255)).toNat : Nat) : Int) < ((cs0.length : Nat) : Int)) <|
  chk (((((cs0.getD ((x1 >>> 8).toNat) 0).toNat : Nat) : Int) + (((cs0.getD ((x1 &&& (BitVec.ofInt 16 255)).toNat) 0).toNat : Nat) : Int)) ≤ 255) <|
  chk (((((cs0.getD ((x1 >>> 8).toNat) 0).toNat + (cs0.getD ((x1 &&& (BitVec.ofInt 16 255)).toNat) 0).toNat) : Nat) : Int) ≤ 9223372036854775807) <|
  some ((((cs0.getD ((x1 >>> 8).toNat) 0).toNat + (cs0.getD ((x1 &&& (BitVec.ofInt 16 255)).toNat) 0).toNat) : Nat) : Int)
set_option maxRecDepth 100000 in
theorem f116_ok  (x1 : BitVec 16) (r : Int) (h : f116 x1 = some r)  : Spec1 Tryz.prog 116 [] [] [] [.b16 x1] (.int .i64 r) [] := by
  unfold f116 at h
  refine Spec1.body 0 _ _ Tryz.func116 rfl Tryz.ntmps116 rfl rfl ?_
  refine q1rq [] [] [0] [] ⟨11, [(0, .b16 x1)], [], [], 0⟩ trivial ?_
  refine AWp.seq ?_
  have ob0 : 0 ≤ (8 : Int) := by first | decide | omega | simp | (intro h; cases h)
  obtain ⟨ob1p, h⟩ := chk_some h
  have ob1 : 0 ≤ (((x1 >>> 8).toNat : Nat) : Int) ∧ (((x1 >>> 8).toNat : Nat) : Int) < ((cs0.length : Nat) : Int) := ⟨by omega, ob1p⟩
  obtain ⟨ob2p, h⟩ := chk_some h
  have ob2 : 0 ≤ (((x1 &&& (q1w16 255)).toNat : Nat) : Int) ∧ (((x1 &&& (q1w16 255)).toNat : Nat) : Int) < ((cs0.length : Nat) : Int) := ⟨by omega, ob2p⟩
  obtain ⟨ob3p, h⟩ := chk_some h
  have ob3 : 0 ≤ ((((cs0.getD ((x1 >>> 8).toNat) 0).toNat : Nat) : Int) + (((cs0.getD ((x1 &&& (q1w16 255)).toNat) 0).toNat : Nat) : Int)) ∧ ((((cs0.getD ((x1 >>> 8).toNat) 0).toNat : Nat) : Int) + (((cs0.getD ((x1 &&& (q1w16 255)).toNat) 0).toNat : Nat) : Int)) ≤ 255 := ⟨by omega, ob3p⟩
  obtain ⟨ob4p, h⟩ := chk_some h
  have ob4 : -9223372036854775808 ≤ ((((cs0.getD ((x1 >>> 8).toNat) 0).toNat + (cs0.getD ((x1 &&& (q1w16 255)).toNat) 0).toNat) : Nat) : Int) ∧ ((((cs0.getD ((x1 >>> 8).toNat) 0).toNat + (cs0.getD ((x1 &&& (q1w16 255)).toNat) 0).toNat) : Nat) : Int) ≤ 9223372036854775807 := ⟨by omega, ob4p⟩
  refine q1rr [] [] [2] [] ⟨11, [(2, .int .i64 ((((cs0.getD ((x1 >>> 8).toNat) 0).toNat + (cs0.getD ((x1 &&& (q1w16 255)).toNat) 0).toNat) : Nat) : Int))], [], [], 0⟩ (an5 ob0 ob1 ob2 ob3 ob4) ?_
  refine thenQ_normal ?_
  have hret := Option.some.inj h
  subst hret
  refine AWp.le (Le.mk (s' := ⟨11, [(2, .int .i64 ((((cs0.getD ((x1 >>> 8).toNat) 0).toNat + (cs0.getD ((x1 &&& (q1w16 255)).toNat) 0).toNat) : Nat) : Int))], [], [], 0⟩) rfl rfl ⟨.refl _, trivial⟩ trivial) ?_
  refine AWp.ret ?_
  exact bodyQ_ret _ rfl ⟨rfl, rfl⟩ rfl
def f91 (x1 : BitVec 16) : Option Int :=
  (f116 x1).bind fun (r2 : Int) =>
  some r2
set_option maxRecDepth 100000 in
theorem f91_ok  (x1 : BitVec 16) (r : Int) (h : f91 x1 = some r)  : Spec1 Tryz.prog 91 [] [] [] [.b16 x1] (.int .i64 r) [] := by
  unfold f91 at h
  refine Spec1.body 0 _ _ Tryz.func91 rfl Tryz.ntmps91 rfl rfl ?_
  refine q1rq [] [] [0] [] ⟨5, [(0, .b16 x1)], [], [], 0⟩ trivial ?_
  refine AWp.seq ?_
  obtain ⟨r2, hr2, h⟩ := bind_ok h
  refine q1rr [] [(1, ⟨[.b16 x1], [], [], [], .int .i64 r2, [], [], []⟩)] [2] [] ⟨5, [(2, .int .i64 r2)], [], [], 0⟩ (an1 (cpT (f116_ok _ _ hr2))) ?_
  refine thenQ_normal ?_
  have hret := Option.some.inj h
  subst hret
  refine AWp.le (Le.mk (s' := ⟨5, [(2, .int .i64 r2)], [], [], 0⟩) rfl rfl ⟨.refl _, trivial⟩ trivial) ?_
  refine AWp.ret ?_
  exact bodyQ_ret _ rfl ⟨rfl, rfl⟩ rfl
def f115 (x1 : Int) : Option Bool :=
  some (x1 != x1)
set_option maxRecDepth 100000 in
theorem f115_ok  (x1 : Int) (r : Bool) (h : f115 x1 = some r)  : Spec1 Tryz.prog 115 [] [] [] [.int .i64 x1] (.bool r) [] := by
  unfold f115 at h
  refine Spec1.body 0 _ _ Tryz.func115 rfl Tryz.ntmps115 rfl rfl ?_
  refine q1rq [] [] [0] [] ⟨6, [(0, .int .i64 x1)], [], [], 0⟩ trivial ?_
  refine q1rq [] [] [2] [] ⟨6, [(2, .bool (x1 != x1))], [], [], 0⟩ trivial ?_
  have hret := Option.some.inj h
  subst hret
  refine AWp.le (Le.mk (s' := ⟨6, [(2, .bool (x1 != x1))], [], [], 0⟩) rfl rfl ⟨.refl _, trivial⟩ trivial) ?_
  refine AWp.ret ?_
  exact bodyQ_ret _ rfl ⟨rfl, rfl⟩ rfl
def f90 (x1 : Int) (x2 : Int) : Option Int :=
  (f115 x1).bind fun (r3 : Bool) =>
  (f115 x2).bind fun (r4 : Bool) =>
  if r3 then (
  if r4 then (
  some (0 : Int)
  ) else (
  some (-1 : Int)
  )
  ) else (
  if r4 then (
  some (1 : Int)
  ) else (
  if (decide (x1 < x2)) then (
  some (-1 : Int)
  ) else (
  if (decide (x1 > x2)) then (
  some (1 : Int)
  ) else (
  some (0 : Int)
  )
  )
  )
  )
set_option maxRecDepth 100000 in
theorem f90_ok  (x1 : Int) (x2 : Int) (r : Int) (h : f90 x1 x2 = some r)  : Spec1 Tryz.prog 90 [] [] [] [.int .i64 x1, .int .i64 x2] (.int .i64 r) [] := by
  unfold f90 at h
  refine Spec1.body 0 _ _ Tryz.func90 rfl Tryz.ntmps90 rfl rfl ?_
  refine q1rq [] [] [0, 1] [] ⟨20, [(0, .int .i64 x1), (1, .int .i64 x2)], [], [], 0⟩ trivial ?_
  refine AWp.seq ?_
  obtain ⟨r3, hr3, h⟩ := bind_ok h
  refine q1rr [] [(1, ⟨[.int .i64 x1], [], [], [], .bool r3, [], [], []⟩)] [0, 1, 5] [] ⟨20, [(0, .int .i64 x1), (1, .int .i64 x2), (5, .bool r3)], [], [], 0⟩ (an1 (cpT (f115_ok _ _ hr3))) ?_
  refine thenQ_normal ?_
  refine AWp.seq ?_
  obtain ⟨r4, hr4, h⟩ := bind_ok h
  refine q1rr [] [(1, ⟨[.int .i64 x2], [], [], [], .bool r4, [], [], []⟩)] [0, 1, 5, 6] [] ⟨20, [(0, .int .i64 x1), (1, .int .i64 x2), (5, .bool r3), (6, .bool r4)], [], [], 0⟩ (an1 (cpT (f115_ok _ _ hr4))) ?_
  refine thenQ_normal ?_
  refine AWp.seq ?_
  refine q1rq [] [] [0, 1, 6, 11] [] ⟨20, [(0, .int .i64 x1), (1, .int .i64 x2), (6, .bool r4), (11, .bool r3)], [], [], 0⟩ trivial ?_
  refine AWp.cond (b := r3) (by kernel_rfl) (fun hc1 => ?_) (fun hc1 => ?_)
  ·
    replace h := ite_tb hc1 h
    refine AWp.seq ?_
    refine q1rq [] [] [12] [] ⟨20, [(12, .bool r4)], [], [], 0⟩ trivial ?_
    refine AWp.cond (b := r4) (by kernel_rfl) (fun hc2 => ?_) (fun hc2 => ?_)
    ·
      replace h := ite_tb hc2 h
      refine q1rq [] [] [4] [] ⟨20, [(4, .int .i64 (0 : Int))], [], [], 0⟩ trivial ?_
      have hret := Option.some.inj h
      subst hret
      refine AWp.le (Le.mk (s' := ⟨20, [(4, .int .i64 (0 : Int))], [], [], 0⟩) rfl rfl ⟨.refl _, trivial⟩ trivial) ?_
      refine AWp.ret ?_
      refine thenQ_ret ?_
      refine thenQ_ret ?_
      exact bodyQ_ret _ rfl ⟨rfl, rfl⟩ rfl
    ·
      replace h := ite_fb hc2 h
      refine AWp.skip ?_
      refine thenQ_normal ?_
      refine q1rq [] [] [4] [] ⟨20, [(4, .int .i64 (-1 : Int))], [], [], 0⟩ trivial ?_
      have hret := Option.some.inj h
      subst hret
      refine AWp.le (Le.mk (s' := ⟨20, [(4, .int .i64 (-1 : Int))], [], [], 0⟩) rfl rfl ⟨.refl _, trivial⟩ trivial) ?_
      refine AWp.ret ?_
      refine thenQ_ret ?_
      exact bodyQ_ret _ rfl ⟨rfl, rfl⟩ rfl
  ·
    replace h := ite_fb hc1 h
    refine AWp.skip ?_
    refine thenQ_normal ?_
    refine AWp.seq ?_
    refine q1rq [] [] [0, 1, 13] [] ⟨20, [(0, .int .i64 x1), (1, .int .i64 x2), (13, .bool r4)], [], [], 0⟩ trivial ?_
    refine AWp.cond (b := r4) (by kernel_rfl) (fun hc3 => ?_) (fun hc3 => ?_)
    ·
      replace h := ite_tb hc3 h
      refine q1rq [] [] [4] [] ⟨20, [(4, .int .i64 (1 : Int))], [], [], 0⟩ trivial ?_
      have hret := Option.some.inj h
      subst hret
      refine AWp.le (Le.mk (s' := ⟨20, [(4, .int .i64 (1 : Int))], [], [], 0⟩) rfl rfl ⟨.refl _, trivial⟩ trivial) ?_
      refine AWp.ret ?_
      refine thenQ_ret ?_
      exact bodyQ_ret _ rfl ⟨rfl, rfl⟩ rfl
    ·
      replace h := ite_fb hc3 h
      refine AWp.skip ?_
      refine thenQ_normal ?_
      refine AWp.seq ?_
      refine q1rq [] [] [0, 1, 16] [] ⟨20, [(0, .int .i64 x1), (1, .int .i64 x2), (16, .bool (decide (x1 < x2)))], [], [], 0⟩ trivial ?_
      refine AWp.cond (b := (decide (x1 < x2))) (by kernel_rfl) (fun hc4 => ?_) (fun hc4 => ?_)
      ·
        replace h := ite_tb hc4 h
        refine q1rq [] [] [4] [] ⟨20, [(4, .int .i64 (-1 : Int))], [], [], 0⟩ trivial ?_
        have hret := Option.some.inj h
        subst hret
        refine AWp.le (Le.mk (s' := ⟨20, [(4, .int .i64 (-1 : Int))], [], [], 0⟩) rfl rfl ⟨.refl _, trivial⟩ trivial) ?_
        refine AWp.ret ?_
        refine thenQ_ret ?_
        exact bodyQ_ret _ rfl ⟨rfl, rfl⟩ rfl
      ·
        replace h := ite_fb hc4 h
        refine AWp.skip ?_
        refine thenQ_normal ?_
        refine AWp.seq ?_
        refine q1rq [] [] [19] [] ⟨20, [(19, .bool (decide (x1 > x2)))], [], [], 0⟩ trivial ?_
        refine AWp.cond (b := (decide (x1 > x2))) (by kernel_rfl) (fun hc5 => ?_) (fun hc5 => ?_)
        ·
          replace h := ite_tb hc5 h
          refine q1rq [] [] [4] [] ⟨20, [(4, .int .i64 (1 : Int))], [], [], 0⟩ trivial ?_
          have hret := Option.some.inj h
          subst hret
          refine AWp.le (Le.mk (s' := ⟨20, [(4, .int .i64 (1 : Int))], [], [], 0⟩) rfl rfl ⟨.refl _, trivial⟩ trivial) ?_
          refine AWp.ret ?_
          refine thenQ_ret ?_
          exact bodyQ_ret _ rfl ⟨rfl, rfl⟩ rfl
        ·
          replace h := ite_fb hc5 h
          refine AWp.skip ?_
          refine thenQ_normal ?_
          refine q1rq [] [] [4] [] ⟨20, [(4, .int .i64 (0 : Int))], [], [], 0⟩ trivial ?_
          have hret := Option.some.inj h
          subst hret
          refine AWp.le (Le.mk (s' := ⟨20, [(4, .int .i64 (0 : Int))], [], [], 0⟩) rfl rfl ⟨.refl _, trivial⟩ trivial) ?_
          refine AWp.ret ?_
          exact bodyQ_ret _ rfl ⟨rfl, rfl⟩ rfl
def f117 (x1 : BitVec 16) : Option Bool :=
  some (!(x1 == x1))
set_option maxRecDepth 100000 in
theorem f117_ok  (x1 : BitVec 16) (r : Bool) (h : f117 x1 = some r)  : Spec1 Tryz.prog 117 [] [] [] [.b16 x1] (.bool r) [] := by
  unfold f117 at h
  refine Spec1.body 0 _ _ Tryz.func117 rfl Tryz.ntmps117 rfl rfl ?_
  refine q1rq [] [] [0] [] ⟨6, [(0, .b16 x1)], [], [], 0⟩ trivial ?_
  refine q1rq [] [] [2] [] ⟨6, [(2, .bool (!(x1 == x1)))], [], [], 0⟩ trivial ?_
  have hret := Option.some.inj h
  subst hret
  refine AWp.le (Le.mk (s' := ⟨6, [(2, .bool (!(x1 == x1)))], [], [], 0⟩) rfl rfl ⟨.refl _, trivial⟩ trivial) ?_
  refine AWp.ret ?_
  exact bodyQ_ret _ rfl ⟨rfl, rfl⟩ rfl
def f92 (x1 : BitVec 16) (x2 : BitVec 16) : Option Int :=
  (f117 x1).bind fun (r3 : Bool) =>
  (f117 x2).bind fun (r4 : Bool) =>
  if r3 then (
  if r4 then (
  some (0 : Int)
  ) else (
  some (-1 : Int)
  )
  ) else (
  if r4 then (
  some (1 : Int)
  ) else (
  if (decide (x1.toNat < x2.toNat)) then (
  some (-1 : Int)
  ) else (
  if (decide (x1.toNat > x2.toNat)) then (
  some (1 : Int)
  ) else (
  some (0 : Int)
  )
  )
  )
  )
set_option maxRecDepth 100000 in
theorem f92_ok  (x1 : BitVec 16) (x2 : BitVec 16) (r : Int) (h : f92 x1 x2 = some r)  : Spec1 Tryz.prog 92 [] [] [] [.b16 x1, .b16 x2] (.int .i64 r) [] := by
  unfold f92 at h
  refine Spec1.body 0 _ _ Tryz.func92 rfl Tryz.ntmps92 rfl rfl ?_
  refine q1rq [] [] [0, 1] [] ⟨20, [(0, .b16 x1), (1, .b16 x2)], [], [], 0⟩ trivial ?_
  refine AWp.seq ?_
  obtain ⟨r3, hr3, h⟩ := bind_ok h
  refine q1rr [] [(1, ⟨[.b16 x1], [], [], [], .bool r3, [], [], []⟩)] [0, 1, 5] [] ⟨20, [(0, .b16 x1), (1, .b16 x2), (5, .bool r3)], [], [], 0⟩ (an1 (cpT (f117_ok _ _ hr3))) ?_
  refine thenQ_normal ?_
  refine AWp.seq ?_
  obtain ⟨r4, hr4, h⟩ := bind_ok h
  refine q1rr [] [(1, ⟨[.b16 x2], [], [], [], .bool r4, [], [], []⟩)] [0, 1, 5, 6] [] ⟨20, [(0, .b16 x1), (1, .b16 x2), (5, .bool r3), (6, .bool r4)], [], [], 0⟩ (an1 (cpT (f117_ok _ _ hr4))) ?_
  refine thenQ_normal ?_
  refine AWp.seq ?_
  refine q1rq [] [] [0, 1, 6, 11] [] ⟨20, [(0, .b16 x1), (1, .b16 x2), (6, .bool r4), (11, .bool r3)], [], [], 0⟩ trivial ?_
  refine AWp.cond (b := r3) (by kernel_rfl) (fun hc1 => ?_) (fun hc1 => ?_)
  ·
    replace h := ite_tb hc1 h
    refine AWp.seq ?_
    refine q1rq [] [] [12] [] ⟨20, [(12, .bool r4)], [], [], 0⟩ trivial ?_
    refine AWp.cond (b := r4) (by kernel_rfl) (fun hc2 => ?_) (fun hc2 => ?_)
    ·
      replace h := ite_tb hc2 h
      refine q1rq [] [] [4] [] ⟨20, [(4, .int .i64 (0 : Int))], [], [], 0⟩ trivial ?_
      have hret := Option.some.inj h
      subst hret
      refine AWp.le (Le.mk (s' := ⟨20, [(4, .int .i64 (0 : Int))], [], [], 0⟩) rfl rfl ⟨.refl _, trivial⟩ trivial) ?_
      refine AWp.ret ?_
      refine thenQ_ret ?_
      refine thenQ_ret ?_
      exact bodyQ_ret _ rfl ⟨rfl, rfl⟩ rfl
    ·
      replace h := ite_fb hc2 h
      refine AWp.skip ?_
      refine thenQ_normal ?_
      refine q1rq [] [] [4] [] ⟨20, [(4, .int .i64 (-1 : Int))], [], [], 0⟩ trivial ?_
      have hret := Option.some.inj h
      subst hret
      refine AWp.le (Le.mk (s' := ⟨20, [(4, .int .i64 (-1 : Int))], [], [], 0⟩) rfl rfl ⟨.refl _, trivial⟩ trivial) ?_
      refine AWp.ret ?_
      refine thenQ_ret ?_
      exact bodyQ_ret _ rfl ⟨rfl, rfl⟩ rfl
  ·
    replace h := ite_fb hc1 h
    refine AWp.skip ?_
    refine thenQ_normal ?_
    refine AWp.seq ?_
    refine q1rq [] [] [0, 1, 13] [] ⟨20, [(0, .b16 x1), (1, .b16 x2), (13, .bool r4)], [], [], 0⟩ trivial ?_
    refine AWp.cond (b := r4) (by kernel_rfl) (fun hc3 => ?_) (fun hc3 => ?_)
    ·
      replace h := ite_tb hc3 h
      refine q1rq [] [] [4] [] ⟨20, [(4, .int .i64 (1 : Int))], [], [], 0⟩ trivial ?_
      have hret := Option.some.inj h
      subst hret
      refine AWp.le (Le.mk (s' := ⟨20, [(4, .int .i64 (1 : Int))], [], [], 0⟩) rfl rfl ⟨.refl _, trivial⟩ trivial) ?_
      refine AWp.ret ?_
      refine thenQ_ret ?_
      exact bodyQ_ret _ rfl ⟨rfl, rfl⟩ rfl
    ·
      replace h := ite_fb hc3 h
      refine AWp.skip ?_
      refine thenQ_normal ?_
      refine AWp.seq ?_
      refine q1rq [] [] [0, 1, 16] [] ⟨20, [(0, .b16 x1), (1, .b16 x2), (16, .bool (decide (x1.toNat < x2.toNat)))], [], [], 0⟩ trivial ?_
      refine AWp.cond (b := (decide (x1.toNat < x2.toNat))) (by kernel_rfl) (fun hc4 => ?_) (fun hc4 => ?_)
      ·
        replace h := ite_tb hc4 h
        refine q1rq [] [] [4] [] ⟨20, [(4, .int .i64 (-1 : Int))], [], [], 0⟩ trivial ?_
        have hret := Option.some.inj h
        subst hret
        refine AWp.le (Le.mk (s' := ⟨20, [(4, .int .i64 (-1 : Int))], [], [], 0⟩) rfl rfl ⟨.refl _, trivial⟩ trivial) ?_
        refine AWp.ret ?_
        refine thenQ_ret ?_
        exact bodyQ_ret _ rfl ⟨rfl, rfl⟩ rfl
      ·
        replace h := ite_fb hc4 h
        refine AWp.skip ?_
        refine thenQ_normal ?_
        refine AWp.seq ?_
        refine q1rq [] [] [19] [] ⟨20, [(19, .bool (decide (x1.toNat > x2.toNat)))], [], [], 0⟩ trivial ?_
        refine AWp.cond (b := (decide (x1.toNat > x2.toNat))) (by kernel_rfl) (fun hc5 => ?_) (fun hc5 => ?_)
        ·
          replace h := ite_tb hc5 h
          refine q1rq [] [] [4] [] ⟨20, [(4, .int .i64 (1 : Int))], [], [], 0⟩ trivial ?_
          have hret := Option.some.inj h
          subst hret
          refine AWp.le (Le.mk (s' := ⟨20, [(4, .int .i64 (1 : Int))], [], [], 0⟩) rfl rfl ⟨.refl _, trivial⟩ trivial) ?_
          refine AWp.ret ?_
          refine thenQ_ret ?_
          exact bodyQ_ret _ rfl ⟨rfl, rfl⟩ rfl
        ·
          replace h := ite_fb hc5 h
          refine AWp.skip ?_
          refine thenQ_normal ?_
          refine q1rq [] [] [4] [] ⟨20, [(4, .int .i64 (0 : Int))], [], [], 0⟩ trivial ?_
          have hret := Option.some.inj h
          subst hret
          refine AWp.le (Le.mk (s' := ⟨20, [(4, .int .i64 (0 : Int))], [], [], 0⟩) rfl rfl ⟨.refl _, trivial⟩ trivial) ?_
          refine AWp.ret ?_
          exact bodyQ_ret _ rfl ⟨rfl, rfl⟩ rfl
def f73_L0 (x1 : List Int) (K1 : Unit → Option Int) : Nat → Nat → Option Int
  | 0, _ => none
  | k + 1, n2 =>
    if (decide ((n2 : Int) < (((x1).length : Nat) : Int))) then (
    chk ((n2 : Int) < (((x1).length : Nat) : Int)) <|
    if ((x1.getD n2 0) != (0 : Int)) then (
    some (x1.getD n2 0)
    ) else (
    chk (((n2 : Int) + (1 : Int)) ≤ 9223372036854775807) <|
    (f73_L0 x1 K1 k) (n2 + 1)
    )
    ) else (
    K1 ()
    )
def f73 (x1 : List Int) : Option Int :=
  jn (fun (_ : Unit) =>
  some (0 : Int)
  ) fun (K1 : Unit → Option Int) =>
  f73_L0 x1 K1 FUEL 0
set_option maxRecDepth 100000 in
theorem f73_ok  (x1 : List Int) (r : Int) (h : f73 x1 = some r)  : Spec1 Tryz.prog 73 [] [] [] [vL 1 eI 0 x1] (.int .i64 r) [] := by
  unfold f73 at h
  refine Spec1.body 0 _ _ Tryz.func73 rfl Tryz.ntmps73 rfl rfl ?_
  refine q1rq [] [] [0] [] ⟨18, [(0, q1aI x1)], [], [], 0⟩ trivial ?_
  refine q1rq [] [] [0, 3] [] ⟨18, [(0, q1aI x1), (3, .int .i64 (0 : Int))], [], [], 0⟩ trivial ?_
  obtain ⟨K1, hK1, h⟩ := jn_some h
  refine AWp.join (α := Unit) (fun (x : Unit) => match x with | () => ⟨18, [(3, .int .i64 (0 : Int))], [], [], 0⟩) (fun x => K1 x = some r) ?_ ?_
  ·
    refine q1rq [] [] [3, 6, 7, 8] [] ⟨18, [(3, .int .i64 (0 : Int)), (6, q1aI x1), (7, .int .i64 (((x1).length : Nat) : Int)), (8, .int .i64 (0 : Int))], [], [], 0⟩ trivial ?_
    refine AWp.block ?_
    refine AWp.loopL (α := Nat × Nat) (fun x => match x with | (_, n2) => ⟨18, [(3, .int .i64 (0 : Int)), (6, q1aI x1), (7, .int .i64 (((x1).length : Nat) : Int)), (8, .int .i64 (n2 : Int))], [], [], 0⟩) (fun x => f73_L0 x1 K1 x.1 x.2 = some r) (fun x => x.1) (FUEL, 0) (Le.mk (s' := ⟨18, [(3, .int .i64 (0 : Int)), (6, q1aI x1), (7, .int .i64 (((x1).length : Nat) : Int)), (8, .int .i64 (0 : Int))], [], [], 0⟩) rfl rfl ⟨.refl _, .refl _, .refl _, .refl _, trivial⟩ trivial) h ?_
    rintro ⟨k0, n2⟩ h
    cases k0 with
    | zero => exact nomatch (show (none : Option Int) = some r from h)
    | succ k0 =>
    obtain ⟨C0, hC0⟩ : ∃ C, C = f73_L0 x1 K1 k0 := ⟨_, rfl⟩
    replace h := (f73_L0.eq_2 ..).symm.trans h
    try rw [← hC0] at h
    refine q1rq [] [] [3, 6, 7, 8, 9] [] ⟨18, [(3, .int .i64 (0 : Int)), (6, q1aI x1), (7, .int .i64 (((x1).length : Nat) : Int)), (8, .int .i64 (n2 : Int)), (9, .bool (decide ((n2 : Int) < (((x1).length : Nat) : Int))))], [], [], 0⟩ trivial ?_
    refine AWp.seq ?_
    refine AWp.cond (b := (decide ((n2 : Int) < (((x1).length : Nat) : Int)))) (by kernel_rfl) (fun hc1 => ?_) (fun hc1 => ?_)
    ·
      replace h := ite_tb hc1 h
      refine AWp.skip ?_
      refine thenQ_normal ?_
      refine AWp.seq ?_
      refine AWp.block ?_
      refine AWp.seq ?_
      obtain ⟨ob0p, h⟩ := chk_some h
      have ob0 : 0 ≤ (n2 : Int) ∧ (n2 : Int) < (((x1).length : Nat) : Int) := ⟨by omega, ob0p⟩
      refine q1rr [] [] [3, 5, 6, 7, 8] [] ⟨18, [(3, .int .i64 (0 : Int)), (5, .int .i64 (x1.getD n2 0)), (6, q1aI x1), (7, .int .i64 (((x1).length : Nat) : Int)), (8, .int .i64 (n2 : Int))], [], [], 0⟩ (an1 ob0) ?_
      refine thenQ_normal ?_
      refine q1rq [] [] [3, 5, 6, 7, 8, 14] [] ⟨18, [(3, .int .i64 (0 : Int)), (5, .int .i64 (x1.getD n2 0)), (6, q1aI x1), (7, .int .i64 (((x1).length : Nat) : Int)), (8, .int .i64 (n2 : Int)), (14, .bool ((x1.getD n2 0) != (0 : Int)))], [], [], 0⟩ trivial ?_
      refine AWp.cond (b := ((x1.getD n2 0) != (0 : Int))) (by kernel_rfl) (fun hc2 => ?_) (fun hc2 => ?_)
      ·
        replace h := ite_tb hc2 h
        refine q1rq [] [] [2] [] ⟨18, [(2, .int .i64 (x1.getD n2 0))], [], [], 0⟩ trivial ?_
        have hret := Option.some.inj h
        subst hret
        refine AWp.le (Le.mk (s' := ⟨18, [(2, .int .i64 (x1.getD n2 0))], [], [], 0⟩) rfl rfl ⟨.refl _, trivial⟩ trivial) ?_
        refine AWp.ret ?_
        refine blockQ_ret ?_
        refine thenQ_ret ?_
        refine thenQ_ret ?_
        refine blockQ_ret ?_
        refine joinQ_ret ?_
        exact bodyQ_ret _ rfl ⟨rfl, rfl⟩ rfl
      ·
        replace h := ite_fb hc2 h
        refine AWp.skip ?_
        refine blockQ_normal ?_
        refine thenQ_normal ?_
        obtain ⟨ob1p, h⟩ := chk_some h
        have ob1 : -9223372036854775808 ≤ ((n2 : Int) + (1 : Int)) ∧ ((n2 : Int) + (1 : Int)) ≤ 9223372036854775807 := ⟨by omega, ob1p⟩
        refine q1rr [] [] [3, 6, 7, 8] [] ⟨18, [(3, .int .i64 (0 : Int)), (6, q1aI x1), (7, .int .i64 (((x1).length : Nat) : Int)), (8, .int .i64 (((n2 + 1) : Nat) : Int))], [], [], 0⟩ (an1 ob1) ?_
        rw [hC0] at h
        exact loopQ_normal (_, (n2 + 1)) (Le.mk rfl rfl ⟨.refl _, .refl _, .refl _, .refl _, trivial⟩ trivial) h (Nat.lt_succ_self _)
    ·
      replace h := ite_fb hc1 h
      refine AWp.exit ?_
      refine thenQ_exit ?_
      refine thenQ_exit ?_
      refine blockQ_same ?_
      exact joinQ_normal () (Le.mk rfl rfl ⟨.refl _, trivial⟩ trivial) h
  ·
    rintro ⟨⟩ h
    replace h := (congrFun hK1 _).symm.trans h
    refine q1rq [] [] [2] [] ⟨18, [(2, .int .i64 (0 : Int))], [], [], 0⟩ trivial ?_
    have hret := Option.some.inj h
    subst hret
    refine AWp.le (Le.mk (s' := ⟨18, [(2, .int .i64 (0 : Int))], [], [], 0⟩) rfl rfl ⟨.refl _, trivial⟩ trivial) ?_
    refine AWp.ret ?_
    exact bodyQ_ret _ rfl ⟨rfl, rfl⟩ rfl
def f65 (x1 : BitVec 16) (x2 : BitVec 16) : Option Int :=
  (f91 x1).bind fun (r3 : Int) =>
  (f91 x2).bind fun (r4 : Int) =>
  (f90 r3 r4).bind fun (r5 : Int) =>
  (f92 x1 x2).bind fun (r6 : Int) =>
  (f73 [r5, r6]).bind fun (r7 : Int) =>
  some r7
set_option maxRecDepth 100000 in
theorem f65_ok  (x1 : BitVec 16) (x2 : BitVec 16) (r : Int) (h : f65 x1 x2 = some r)  : Spec1 Tryz.prog 65 [] [] [] [.b16 x1, .b16 x2] (.int .i64 r) [] := by
  unfold f65 at h
  refine Spec1.body 0 _ _ Tryz.func65 rfl Tryz.ntmps65 rfl rfl ?_
  refine q1rq [] [] [0, 1] [] ⟨15, [(0, .b16 x1), (1, .b16 x2)], [], [], 0⟩ trivial ?_
  refine AWp.seq ?_
  obtain ⟨r3, hr3, h⟩ := bind_ok h
  obtain ⟨r4, hr4, h⟩ := bind_ok h
  obtain ⟨r5, hr5, h⟩ := bind_ok h
  obtain ⟨r6, hr6, h⟩ := bind_ok h
  obtain ⟨r7, hr7, h⟩ := bind_ok h
  refine q1rr [] [(1, ⟨[.b16 x1], [], [], [], .int .i64 r3, [], [], []⟩), (3, ⟨[.b16 x2], [], [], [], .int .i64 r4, [], [], []⟩), (4, ⟨[.int .i64 r3, .int .i64 r4], [], [], [], .int .i64 r5, [], [], []⟩), (7, ⟨[.b16 x1, .b16 x2], [], [], [], .int .i64 r6, [], [], []⟩), (9, ⟨[q1aI [r5, r6]], [], [], [], .int .i64 r7, [], [13], []⟩)] [4] [] ⟨15, [(4, .int .i64 r7)], [], [], 0⟩ (an5 (cpT (f91_ok _ _ hr3)) (cpT (f91_ok _ _ hr4)) (cpT (f90_ok _ _ _ hr5)) (cpT (f92_ok _ _ _ hr6)) (cpL (c := true) [(13, .rows 3 1 2 (lstF 1 [.int .i64 r5, .int .i64 r6]))] [13] [.own 13] (fun _ => (f73_ok _ _ hr7)) (fun _ => ⟨(VLe.of (RL.lst (enc := eI) [r5, r6] rfl rfl (fun _ => rfl))), trivial⟩) (.inr ⟨rfl, trivial⟩))) ?_
  refine thenQ_normal ?_
  have hret := Option.some.inj h
  subst hret
  refine AWp.le (Le.mk (s' := ⟨15, [(4, .int .i64 r7)], [], [], 0⟩) rfl rfl ⟨.refl _, trivial⟩ trivial) ?_
  refine AWp.ret ?_
  exact bodyQ_ret _ rfl ⟨rfl, rfl⟩ rfl
def f43 (x1 : BitVec 16) (x2 : BitVec 16) (x3 : BitVec 16) (x4 : BitVec 16) : Option Int :=
  (f65 x1 x3).bind fun (r5 : Int) =>
  (f65 x2 x4).bind fun (r6 : Int) =>
  (f73 [r5, r6]).bind fun (r7 : Int) =>
  some r7
set_option maxRecDepth 100000 in
theorem f43_ok  (x1 : BitVec 16) (x2 : BitVec 16) (x3 : BitVec 16) (x4 : BitVec 16) (r : Int) (h : f43 x1 x2 x3 x4 = some r)  : Spec1 Tryz.prog 43 [] [] [] [.agg [.b16 x1, .b16 x2], .agg [.b16 x3, .b16 x4]] (.int .i64 r) [] := by
  unfold f43 at h
  refine Spec1.body 0 _ _ Tryz.func43 rfl Tryz.ntmps43 rfl rfl ?_
  refine q1rq [] [] [2, 3] [2, 3] ⟨17, [(2, .ptr 2 0), (3, .ptr 3 0)], [(2, .cells 30 [.b16 x1, .b16 x2]), (3, .cells 30 [.b16 x3, .b16 x4])], [], 0⟩ trivial ?_
  refine AWp.seq ?_
  obtain ⟨r5, hr5, h⟩ := bind_ok h
  obtain ⟨r6, hr6, h⟩ := bind_ok h
  obtain ⟨r7, hr7, h⟩ := bind_ok h
  refine q1rr [] [(4, ⟨[.b16 x1, .b16 x3], [], [], [], .int .i64 r5, [], [], []⟩), (9, ⟨[.b16 x2, .b16 x4], [], [], [], .int .i64 r6, [], [], []⟩), (11, ⟨[q1aI [r5, r6]], [], [], [], .int .i64 r7, [], [15], []⟩)] [4] [] ⟨17, [(4, .int .i64 r7)], [], [], 0⟩ (an3 (cpT (f65_ok _ _ _ hr5)) (cpT (f65_ok _ _ _ hr6)) (cpL (c := true) [(15, .rows 3 1 2 (lstF 1 [.int .i64 r5, .int .i64 r6]))] [15] [.own 15] (fun _ => (f73_ok _ _ hr7)) (fun _ => ⟨(VLe.of (RL.lst (enc := eI) [r5, r6] rfl rfl (fun _ => rfl))), trivial⟩) (.inr ⟨rfl, trivial⟩))) ?_
  refine thenQ_normal ?_
  have hret := Option.some.inj h
  subst hret
  refine AWp.le (Le.mk (s' := ⟨17, [(4, .int .i64 r7)], [], [], 0⟩) rfl rfl ⟨.refl _, trivial⟩ trivial) ?_
  refine AWp.ret ?_
  exact bodyQ_ret _ rfl ⟨rfl, rfl⟩ rfl
end Go.Abs
namespace Go.Abs

/-- the bits of n from number i on, c of them -/
def bsum (n : Nat) : Nat → Nat → Nat
  | _, 0 => 0
  | i, c + 1 => n / 2 ^ i % 2 + bsum n (i + 1) c
def sz (x : BitVec 16) : Nat := bsum x.toNat 0 16
theorem bsum_lo (n : Nat) : bsum (n % 256) 0 8 = bsum n 0 8 := by
  have h0 : n % 256 / 2 ^ 0 % 2 = n / 2 ^ 0 % 2 := by omega
  have h1 : n % 256 / 2 ^ 1 % 2 = n / 2 ^ 1 % 2 := by omega
  have h2 : n % 256 / 2 ^ 2 % 2 = n / 2 ^ 2 % 2 := by omega
  have h3 : n % 256 / 2 ^ 3 % 2 = n / 2 ^ 3 % 2 := by omega
  have h4 : n % 256 / 2 ^ 4 % 2 = n / 2 ^ 4 % 2 := by omega
  have h5 : n % 256 / 2 ^ 5 % 2 = n / 2 ^ 5 % 2 := by omega
  have h6 : n % 256 / 2 ^ 6 % 2 = n / 2 ^ 6 % 2 := by omega
  have h7 : n % 256 / 2 ^ 7 % 2 = n / 2 ^ 7 % 2 := by omega
  simp only [bsum, h0, h1, h2, h3, h4, h5, h6, h7]
theorem bsum_hi (n m : Nat) : ∀ c i, bsum (n / 2 ^ m) i c = bsum n (m + i) c
  | 0, i => rfl
  | c + 1, i => by
    simp only [bsum, bsum_hi n m c (i + 1)]
    rw [Nat.div_div_eq_div_mul, ← Nat.pow_add]
    rfl
theorem bsum_app (n : Nat) : ∀ c i d, bsum n i (c + d) = bsum n i c + bsum n (i + c) d
  | 0, i, d => by simp [bsum]
  | c + 1, i, d => by
    rw [show c + 1 + d = (c + d) + 1 by omega]
    simp only [bsum, bsum_app n c (i + 1) d]
    rw [show i + 1 + c = i + (c + 1) by omega]; omega
theorem bsum_split (n : Nat) : bsum (n / 256) 0 8 + bsum (n % 256) 0 8 = bsum n 0 16 := by
  have h := bsum_app n 8 0 8
  have h2 := bsum_hi n 8 8 0
  rw [bsum_lo]
  simp only [Nat.reducePow, Nat.reduceAdd] at h h2 ⊢
  omega
theorem bsum_le (n : Nat) : ∀ c i, bsum n i c ≤ c
  | 0, i => Nat.le_refl _
  | c + 1, i => by
    have := bsum_le n c (i + 1)
    have hb : n / 2 ^ i % 2 < 2 := Nat.mod_lt _ (by decide)
    simp only [bsum]; omega
def pop8 : List UInt8 := [0, 1, 1, 2, 1, 2, 2, 3, 1, 2, 2, 3, 2, 3, 3, 4, 1, 2, 2, 3, 2, 3, 3, 4, 2, 3, 3, 4, 3, 4, 4, 5, 1, 2, 2, 3, 2, 3, 3, 4, 2, 3, 3, 4, 3, 4, 4, 5, 2, 3, 3, 4, 3, 4, 4, 5, 3, 4, 4, 5, 4, 5, 5, 6, 1, 2, 2, 3, 2, 3, 3, 4, 2, 3, 3, 4, 3, 4, 4, 5, 2, 3, 3, 4, 3, 4, 4, 5, 3, 4, 4, 5, 4, 5, 5, 6, 2, 3, 3, 4, 3, 4, 4, 5, 3, 4, 4, 5, 4, 5, 5, 6, 3, 4, 4, 5, 4, 5, 5, 6, 4, 5, 5, 6, 5, 6, 6, 7, 1, 2, 2, 3, 2, 3, 3, 4, 2, 3, 3, 4, 3, 4, 4, 5, 2, 3, 3, 4, 3, 4, 4, 5, 3, 4, 4, 5, 4, 5, 5, 6, 2, 3, 3, 4, 3, 4, 4, 5, 3, 4, 4, 5, 4, 5, 5, 6, 3, 4, 4, 5, 4, 5, 5, 6, 4, 5, 5, 6, 5, 6, 6, 7, 2, 3, 3, 4, 3, 4, 4, 5, 3, 4, 4, 5, 4, 5, 5, 6, 3, 4, 4, 5, 4, 5, 5, 6, 4, 5, 5, 6, 5, 6, 6, 7, 3, 4, 4, 5, 4, 5, 5, 6, 4, 5, 5, 6, 5, 6, 6, 7, 4, 5, 5, 6, 5, 6, 6, 7, 5, 6, 6, 7, 6, 7, 7, 8]
theorem pop8_all : (List.range 256).all (fun b => (pop8.getD b 0).toNat == bsum b 0 8) = true := by decide +kernel
theorem pop8_at (b : Nat) (h : b < 256) : (pop8.getD b 0).toNat = bsum b 0 8 := by
  have := List.all_eq_true.1 pop8_all b (List.mem_range.2 h)
  simpa using this
def cmpI (a b : Int) : Int := if a < b then -1 else if a > b then 1 else 0
/-- the order of sets -/
def ltS (a b : BitVec 16) : Bool := if sz a ≠ sz b then decide (sz a < sz b) else decide (a.toNat < b.toNat)
def key (x : BitVec 16) : Nat := sz x * 65536 + x.toNat
theorem ltS_key {a b : BitVec 16} : ltS a b = true ↔ key a < key b := by
  have ha := a.isLt
  have hb := b.isLt
  unfold ltS key
  by_cases h : sz a = sz b
  · simp [h]
  · simp only [ne_eq, h, not_false_eq_true, if_true, decide_eq_true_eq]
    omega
/-- set.Compare -/
def cmpS (a b : BitVec 16) : Int := if cmpI (sz a) (sz b) ≠ 0 then cmpI (sz a) (sz b) else cmpI a.toNat b.toNat
theorem cmpS_lt (a b : BitVec 16) : decide (cmpS a b < 0) = ltS a b := by
  unfold cmpS cmpI ltS
  by_cases h : sz a = sz b
  · simp [h]
    by_cases h2 : a.toNat < b.toNat
    · simp [h2]
    · simp [h2]; split <;> omega
  · by_cases h1 : sz a < sz b
    · simp [h, h1]
    · have : sz b < sz a := by omega
      simp [h, h1, this]
end Go.Abs
namespace Go.Abs
section
variable {α : Type}
def insK (k : α → Nat) (a : α) : List α → List α
  | [] => [a]
  | b :: l => if k a ≤ k b then a :: b :: l else b :: insK k a l
def isortK (k : α → Nat) : List α → List α
  | [] => []
  | a :: l => insK k a (isortK k l)
variable {k : α → Nat}
theorem insK_perm (a : α) : ∀ l, (insK k a l).Perm (a :: l)
  | [] => .refl _
  | b :: l => by
    unfold insK
    split
    · exact .refl _
    · exact ((insK_perm a l).cons b).trans (.swap ..)
theorem isortK_perm : ∀ l, (isortK k l).Perm l
  | [] => .refl _
  | a :: l => (insK_perm a _).trans ((isortK_perm l).cons a)
theorem insK_sorted (a : α) : ∀ l, l.Pairwise (fun x y => k x ≤ k y) → (insK k a l).Pairwise fun x y => k x ≤ k y
  | [], _ => by simp [insK]
  | b :: l, h => by
    unfold insK
    rw [List.pairwise_cons] at h
    split
    · rename_i hab
      refine List.pairwise_cons.2 ⟨fun x hx => ?_, List.pairwise_cons.2 h⟩
      rcases List.mem_cons.1 hx with rfl | hx
      · exact hab
      · exact Nat.le_trans hab (h.1 x hx)
    · rename_i hab
      refine List.pairwise_cons.2 ⟨fun x hx => ?_, insK_sorted a l h.2⟩
      rcases List.mem_cons.1 ((insK_perm a l).mem_iff.1 hx) with rfl | hx
      · omega
      · exact h.1 x hx
theorem isortK_sorted : ∀ l, (isortK k l).Pairwise fun x y => k x ≤ k y
  | [] => .nil
  | a :: l => insK_sorted a _ (isortK_sorted l)
theorem sorted_uniq (inj : ∀ x y, k x = k y → x = y) : ∀ l1 l2 : List α, l1.Perm l2 → l1.Pairwise (fun x y => k x ≤ k y) → l2.Pairwise (fun x y => k x ≤ k y) → l1 = l2
  | [], l2, h, _, _ => (List.nil_perm.1 h).symm
  | a :: l1, [], h, _, _ => by have := h.length_eq; simp at this
  | a :: l1, b :: l2, h, h1, h2 => by
    rw [List.pairwise_cons] at h1 h2
    have e : a = b := by
      refine inj a b (Nat.le_antisymm ?_ ?_)
      · rcases List.mem_cons.1 (h.mem_iff.2 (List.mem_cons_self (a := b) (l := l2))) with rfl | hb
        · exact Nat.le_refl _
        · exact h1.1 b hb
      · rcases List.mem_cons.1 (h.mem_iff.1 (List.mem_cons_self (a := a) (l := l1))) with rfl | ha
        · exact Nat.le_refl _
        · exact h2.1 a ha
    subst e
    rw [sorted_uniq inj l1 l2 (List.Perm.cons_inv h) h1.2 h2.2]
theorem isortK_eq (inj : ∀ x y, k x = k y → x = y) {lt : α → α → Bool} (hlt : ∀ x y, lt x y = true ↔ k x < k y) (l : List α) : l.mergeSort (fun x y => !lt y x) = isortK k l := by
  have hle : ∀ x y, (!lt y x) = true ↔ k x ≤ k y := by
    intro x y
    have := hlt y x
    cases h : lt y x <;> simp [h] at this ⊢ <;> omega
  refine sorted_uniq inj _ _ ((List.mergeSort_perm l _).trans (isortK_perm l).symm) ?_ (isortK_sorted l)
  have := List.pairwise_mergeSort (le := fun x y => !lt y x) (fun a b c h1 h2 => (hle _ _).2 (Nat.le_trans ((hle _ _).1 h1) ((hle _ _).1 h2))) (fun a b => by
    rcases Nat.le_total (k a) (k b) with h | h
    · rw [(hle a b).2 h]; rfl
    · rw [(hle b a).2 h, Bool.or_true]) l
  exact this.imp fun h => (hle _ _).1 h
end
end Go.Abs
namespace Go.Abs
/-- y is a part of x -/
def sub (y x : BitVec 16) : Bool := (y &&& ~~~x) == 0#16
theorem bsum_mono {m n : Nat} : ∀ (c i : Nat), (∀ j, i ≤ j → j < i + c → m / 2 ^ j % 2 ≤ n / 2 ^ j % 2) → bsum m i c ≤ bsum n i c ∧ (bsum m i c = bsum n i c → ∀ j, i ≤ j → j < i + c → m / 2 ^ j % 2 = n / 2 ^ j % 2)
  | 0, i, _ => ⟨Nat.le_refl _, fun _ j h1 h2 => by omega⟩
  | c + 1, i, h => by
    obtain ⟨h1, h2⟩ := bsum_mono c (i + 1) fun j a b => h j (by omega) (by omega)
    have h3 := h i (Nat.le_refl _) (by omega)
    simp only [bsum]
    refine ⟨by omega, fun e j a b => ?_⟩
    by_cases hj : j = i
    · subst hj; omega
    · exact h2 (by omega) j (by omega) (by omega)
theorem sub_bits {x y : BitVec 16} (h : sub y x = true) (j : Nat) (hj : j < 16) : y.toNat / 2 ^ j % 2 ≤ x.toNat / 2 ^ j % 2 := by
  unfold sub at h
  rw [beq_iff_eq] at h
  have h1 := congrArg (fun z => z.getLsbD j) h
  simp [hj] at h1
  have hy : y[j] = y.toNat.testBit j := rfl
  have hx : x[j] = x.toNat.testBit j := rfl
  rw [hy, hx] at h1
  rw [Nat.testBit_eq_decide_div_mod_eq, Nat.testBit_eq_decide_div_mod_eq] at h1
  simp at h1
  have a := Nat.mod_lt (y.toNat / 2 ^ j) (show 0 < 2 by decide)
  have b := Nat.mod_lt (x.toNat / 2 ^ j) (show 0 < 2 by decide)
  omega
theorem sub_sz {x y : BitVec 16} (h : sub y x = true) : sz y ≤ sz x ∧ (sz y = sz x → y = x) := by
  obtain ⟨h1, h2⟩ := bsum_mono (m := y.toNat) (n := x.toNat) 16 0 fun j _ hj => sub_bits h j (by omega)
  refine ⟨h1, fun e => ?_⟩
  apply BitVec.eq_of_toNat_eq
  apply Nat.eq_of_testBit_eq
  intro i
  by_cases hi : i < 16
  · rw [Nat.testBit_eq_decide_div_mod_eq, Nat.testBit_eq_decide_div_mod_eq, h2 e i (by omega) (by omega)]
  · rw [Nat.testBit_lt_two_pow (Nat.lt_of_lt_of_le y.isLt (Nat.pow_le_pow_right (n := 2) (by decide) (by omega))), Nat.testBit_lt_two_pow (Nat.lt_of_lt_of_le x.isLt (Nat.pow_le_pow_right (n := 2) (by decide) (by omega)))]
theorem sub_iff {x y : BitVec 16} : sub y x = true ↔ ∀ i, i < 16 → y.getLsbD i = true → x.getLsbD i = true := by
  unfold sub
  rw [beq_iff_eq]
  constructor
  · intro h i hi hy
    have h1 := congrArg (fun z => z.getLsbD i) h
    rw [BitVec.getLsbD_eq_getElem hi] at hy ⊢
    simp [hi] at h1
    exact h1 hy
  · intro h
    apply BitVec.eq_of_getLsbD_eq
    intro i hi
    have := h i hi
    simp only [BitVec.getLsbD_eq_getElem hi] at this
    simp [hi]
    exact this
theorem sub_refl (x : BitVec 16) : sub x x = true := sub_iff.2 fun _ _ h => h
theorem sub_trans {x y z : BitVec 16} (h1 : sub x y = true) (h2 : sub y z = true) : sub x z = true := sub_iff.2 fun i hi h => sub_iff.1 h2 i hi (sub_iff.1 h1 i hi h)
theorem key_lt (x : BitVec 16) : key x < 2000000 := by
  have := bsum_le x.toNat 16 0
  have := x.isLt
  unfold key sz; omega
theorem key_inj' {x y : BitVec 16} (h : key x = key y) : x = y := by
  have h1 := x.isLt
  have h2 := y.isLt
  unfold key at h
  exact BitVec.eq_of_toNat_eq (by omega)

section
variable {α : Type} [DecidableEq α]
end
end Go.Abs
namespace Go.Abs
/-- what a list accepts -/
def acc (l : List (BitVec 16)) (t : BitVec 16) : Bool := l.any fun y => sub y t
theorem sub_or (x y t : BitVec 16) : sub (x ||| y) t = (sub x t && sub y t) := by
  rw [Bool.eq_iff_iff, Bool.and_eq_true, sub_iff, sub_iff, sub_iff]
  constructor
  · intro h
    exact ⟨fun i hi hx => h i hi (by simp [hx]), fun i hi hx => h i hi (by simp [hx])⟩
  · rintro ⟨h1, h2⟩ i hi h
    rw [BitVec.getLsbD_or, Bool.or_eq_true] at h
    rcases h with h | h
    · exact h1 i hi h
    · exact h2 i hi h
theorem bit_diff (x s : BitVec 16) (i : Nat) (hi : i < 16) : (x &&& ~~~s).getLsbD i = (x.getLsbD i && !s.getLsbD i) := by
  rw [BitVec.getLsbD_and, BitVec.getLsbD_not]; simp [hi]
theorem sub_and (x s t : BitVec 16) : sub x (t &&& ~~~s) = (sub x t && ((x &&& s) == 0#16)) := by
  rw [Bool.eq_iff_iff, Bool.and_eq_true, sub_iff, sub_iff, beq_iff_eq]
  constructor
  · intro h
    refine ⟨fun i hi hx => ?_, ?_⟩
    · have := h i hi hx
      rw [bit_diff t s i hi, Bool.and_eq_true] at this; exact this.1
    · apply BitVec.eq_of_getLsbD_eq
      intro i hi
      have h1 := h i hi
      rw [bit_diff t s i hi, Bool.and_eq_true] at h1
      rw [BitVec.getLsbD_and]
      cases hx : x.getLsbD i with
      | false => simp
      | true =>
        have := (h1 hx).2
        simp at this
        rw [Bool.true_and]
        rw [this]; simp
  · rintro ⟨h1, h2⟩ i hi hx
    have h3 := congrArg (fun z => z.getLsbD i) h2
    simp only [BitVec.getLsbD_and, hx, Bool.true_and] at h3
    rw [bit_diff t s i hi, h1 i hi hx, h3]; simp
end Go.Abs
namespace Go.Abs
abbrev Flt := BitVec 16 × BitVec 16
def ftyS (a : Flt) : BitVec 16 := a.1 ||| a.2
/-- b covers a -/
def cov (b a : Flt) : Bool := sub a.1 b.1 && sub (ftyS a) (ftyS b)
def keyF (a : Flt) : Nat := key a.1 * 2000000 + key a.2
theorem keyF_inj {a b : Flt} (h : keyF a = keyF b) : a = b := by
  have h1 := key_lt a.1
  have h2 := key_lt a.2
  have h3 := key_lt b.1
  have h4 := key_lt b.2
  unfold keyF at h
  have e1 : key a.1 = key b.1 := by omega
  have e2 : key a.2 = key b.2 := by omega
  exact Prod.ext (key_inj' e1) (key_inj' e2)
/-- no server both ways -/
def disj (a : Flt) : Prop := a.1 &&& a.2 = 0#16
theorem disj_diff {a : Flt} (h : disj a) : a.2 = ftyS a &&& ~~~a.1 := by
  unfold disj at h
  apply BitVec.eq_of_getLsbD_eq
  intro i hi
  have h3 := congrArg (fun z => z.getLsbD i) h
  simp only [BitVec.getLsbD_and] at h3
  unfold ftyS
  rw [bit_diff _ _ i hi, BitVec.getLsbD_or]
  cases h4 : a.1.getLsbD i with
  | false => simp
  | true => rw [h4, Bool.true_and] at h3; rw [h3]; simp
/-- what a list tolerates -/
def tol (l : List Flt) (a : Flt) : Bool := l.any fun b => cov b a
end Go.Abs
namespace Go.Abs
theorem bit_toNat (x : BitVec 16) (i : Nat) : ((x >>> i) &&& (BitVec.ofInt 16 1)).toNat = x.toNat / 2 ^ i % 2 := by
  rw [BitVec.toNat_and, BitVec.toNat_ushiftRight, Nat.shiftRight_eq_div_pow]
  exact Nat.and_one_is_mod _
theorem cs0_at (b : Nat) (h : b < 256) : (cs0.getD b 0).toNat = bsum b 0 8 := pop8_at b h
theorem f116_eq (x : BitVec 16) : f116 x = some (sz x : Int) := by
  have h1 : (x >>> 8).toNat = x.toNat / 256 := by rw [BitVec.toNat_ushiftRight, Nat.shiftRight_eq_div_pow]
  have h2 : (x &&& (BitVec.ofInt 16 255)).toNat = x.toNat % 256 := by
    rw [BitVec.toNat_and]
    exact Nat.and_two_pow_sub_one_eq_mod x.toNat 8
  have hx := x.isLt
  have hl : cs0.length = 256 := by kernel_rfl
  have e1 := cs0_at (x.toNat / 256) (by omega)
  have e2 := cs0_at (x.toNat % 256) (by omega)
  have l1 := bsum_le (x.toNat / 256) 8 0
  have l2 := bsum_le (x.toNat % 256) 8 0
  unfold f116 chk
  rw [h1, h2, e1, e2, hl, if_pos (by omega), if_pos (by omega), if_pos (by omega), if_pos (by omega), bsum_split]
  rfl
theorem f91_eq (x : BitVec 16) : f91 x = some (sz x : Int) := by
  unfold f91; rw [f116_eq]; rfl
theorem f90_eq (a b : Int) : f90 a b = some (cmpI a b) := by
  unfold f90 f115 cmpI
  simp
  split
  · rfl
  · split <;> rfl
theorem f92_eq (a b : BitVec 16) : f92 a b = some (cmpI a.toNat b.toNat) := by
  unfold f92 f117 cmpI
  simp
  split
  · rfl
  · split <;> rfl
theorem f73_eq (a b : Int) : f73 [a, b] = some (if a ≠ 0 then a else b) := by
  unfold f73 jn
  dsimp only
  obtain ⟨k, hk⟩ : ∃ k, FUEL = k + 1 + 1 + 1 := ⟨FUEL - 3, by unfold FUEL; rfl⟩
  rw [hk, f73_L0.eq_2, if_pos (by simp)]
  unfold chk
  rw [if_pos (by simp)]
  by_cases ha : a = 0
  · subst ha
    simp only [List.getD_cons_zero, bne_self_eq_false, Bool.false_eq_true, if_false]
    rw [if_pos (by omega), f73_L0.eq_2, if_pos (by simp)]
    unfold chk
    rw [if_pos (by simp)]
    by_cases hb : b = 0
    · subst hb
      simp only [Nat.zero_add, List.getD_cons_succ, List.getD_cons_zero, bne_self_eq_false, Bool.false_eq_true, if_false]
      rw [if_pos (by omega), f73_L0.eq_2, if_neg (by simp)]
      simp
    · simp [hb]
  · simp [ha]
theorem f65_eq' (a b : BitVec 16) : f65 a b = some (cmpS a b) := by
  unfold f65
  rw [f91_eq, f91_eq]
  simp only [Option.bind_some, f90_eq, f92_eq, f73_eq]
  rfl
theorem cmpS_zero {a b : BitVec 16} (h : cmpS a b = 0) : key a = key b := by
  unfold cmpS cmpI at h
  unfold key
  have ha := a.isLt
  have hb := b.isLt
  by_cases h1 : sz a = sz b
  · rw [h1] at h ⊢
    simp at h
    split at h
    · cases h
    · split at h
      · cases h
      · omega
  · by_cases h2 : sz a < sz b
    · simp [h2] at h
    · have : sz b < sz a := by omega
      simp [h2, this] at h
theorem cmpS_neg (a b : BitVec 16) : cmpS a b < 0 ↔ key a < key b := by
  have h := cmpS_lt a b
  rw [← ltS_key, ← h]; simp
/-- fault.compare -/
def cmpF (a b : Flt) : Int := if cmpS a.1 b.1 ≠ 0 then cmpS a.1 b.1 else cmpS a.2 b.2
theorem cmpF_lt (a b : Flt) : decide (cmpF a b < 0) = decide (keyF a < keyF b) := by
  unfold cmpF keyF
  have h1 := key_lt a.1
  have h2 := key_lt a.2
  have h3 := key_lt b.1
  have h4 := key_lt b.2
  have n1 := cmpS_neg a.1 b.1
  have n2 := cmpS_neg a.2 b.2
  by_cases h : cmpS a.1 b.1 = 0
  · have := cmpS_zero h
    rw [if_neg (by simpa using h)]
    rw [decide_eq_decide, n2]; omega
  · rw [if_pos h, decide_eq_decide, n1]
    have h5 : key a.1 ≠ key b.1 := by
      intro e
      have e' := key_inj' e
      rw [e'] at h
      apply h
      unfold cmpS cmpI; simp
    omega
theorem f43_eq' (a b : Flt) : f43 a.1 a.2 b.1 b.2 = some (cmpF a b) := by
  unfold f43
  simp only [f65_eq', Option.bind_some, f73_eq]
  rfl
end Go.Abs
