import Derived.Test.YtncjecbhohcfoaaDoorAbsX
import Derived.Shelf.Lay
import Derived.Shelf.Strings.OnBuilder
import Derived.Test.YtncjecbhohcfoaaDoorProg
namespace Go.Proofs
open Go.Shelf
shelf_lay Lays.n156 Nm 156 at Tryd as Tryd.lays156
theorem Tryd.Builder_Extra_156 : Builder.Extra Tryd.prog Tryd.lays156_ren where
  sizeBuilder := by kernel_rfl
  liesBuilder := by kernel_rfl
  t5 := Tryd.underlying5
  a5 := Tryd.isAgg5
  z5 := Tryd.sizeOf5
  v5 := Tryd.zeroValue5
  infoByte := by kernel_rfl
  cellsByte := by kernel_rfl
  sizeByte := by kernel_rfl
  neB5 := by decide
end Go.Proofs
namespace Go.Abs
open Go Go.Proofs
set_option maxHeartbeats 4000000
theorem Tryd_mixed : Tryd.prog.follows .mixedOrders = true := by kernel_rfl
def T0 : List Nat := [0, 1, 28, 2, 29, 14, 24, 3, 30, 22, 20, 15, 25, 17, 4, 8, 31, 27, 13, 23, 21, 19, 16, 7, 26, 12, 18, 6, 11, 5, 10, 9]
def T0F : Nat → Nat → V := fun _ j => .int .u8 ((T0.getD j 0 : Nat) : Int)
def T3 : List Nat := [0, 1, 56, 2, 57, 49, 28, 3, 61, 58, 42, 50, 38, 29, 17, 4, 62, 47, 59, 36, 45, 43, 51, 22, 53, 39, 33, 30, 24, 18, 12, 5, 63, 55, 48, 27, 60, 41, 37, 16, 46, 35, 44, 21, 52, 32, 23, 11, 54, 26, 40, 15, 34, 20, 31, 10, 25, 14, 19, 9, 13, 8, 7, 6]
def T3F : Nat → Nat → V := fun _ j => .int .u8 ((T3.getD j 0 : Nat) : Int)
def T2 : List Nat := [1, 10, 100, 1000, 10000, 100000, 1000000, 10000000, 100000000, 1000000000, 10000000000, 100000000000, 1000000000000, 10000000000000, 100000000000000, 1000000000000000, 10000000000000000, 100000000000000000, 1000000000000000000, 10000000000000000000]
def T2F : Nat → Nat → V := fun _ j => .int .u64 ((T2.getD j 0 : Nat) : Int)
def eW (x : BitVec 16) : List V := [.b16 x]
theorem eW_flat (x : BitVec 16) (j : Nat) : ((eW x).getD j .any).flat = true := by
  match j with
  | 0 => rfl
  | _ + 1 => rfl
def cs0 : List UInt8 := [0, 1, 1, 2, 1, 2, 2, 3, 1, 2, 2, 3, 2, 3, 3, 4, 1, 2, 2, 3, 2, 3, 3, 4, 2, 3, 3, 4, 3, 4, 4, 5, 1, 2, 2, 3, 2, 3, 3, 4, 2, 3, 3, 4, 3, 4, 4, 5, 2, 3, 3, 4, 3, 4, 4, 5, 3, 4, 4, 5, 4, 5, 5, 6, 1, 2, 2, 3, 2, 3, 3, 4, 2, 3, 3, 4, 3, 4, 4, 5, 2, 3, 3, 4, 3, 4, 4, 5, 3, 4, 4, 5, 4, 5, 5, 6, 2, 3, 3, 4, 3, 4, 4, 5, 3, 4, 4, 5, 4, 5, 5, 6, 3, 4, 4, 5, 4, 5, 5, 6, 4, 5, 5, 6, 5, 6, 6, 7, 1, 2, 2, 3, 2, 3, 3, 4, 2, 3, 3, 4, 3, 4, 4, 5, 2, 3, 3, 4, 3, 4, 4, 5, 3, 4, 4, 5, 4, 5, 5, 6, 2, 3, 3, 4, 3, 4, 4, 5, 3, 4, 4, 5, 4, 5, 5, 6, 3, 4, 4, 5, 4, 5, 5, 6, 4, 5, 5, 6, 5, 6, 6, 7, 2, 3, 3, 4, 3, 4, 4, 5, 3, 4, 4, 5, 4, 5, 5, 6, 3, 4, 4, 5, 4, 5, 5, 6, 4, 5, 5, 6, 5, 6, 6, 7, 3, 4, 4, 5, 4, 5, 5, 6, 4, 5, 5, 6, 5, 6, 6, 7, 4, 5, 5, 6, 5, 6, 6, 7, 5, 6, 6, 7, 6, 7, 7, 8]
def eI (x : Int) : List V := [.int .i64 x]
theorem eI_flat (x : Int) (j : Nat) : ((eI x).getD j .any).flat = true := by
  match j with
  | 0 => rfl
  | _ + 1 => rfl
def eB (x : Bool) : List V := [.bool x]
theorem eB_flat (x : Bool) (j : Nat) : ((eB x).getD j .any).flat = true := by
  match j with
  | 0 => rfl
  | _ + 1 => rfl
def cs1 : List UInt8 := [0, 1, 2, 2, 3, 3, 3, 3, 4, 4, 4, 4, 4, 4, 4, 4, 5, 5, 5, 5, 5, 5, 5, 5, 5, 5, 5, 5, 5, 5, 5, 5, 6, 6, 6, 6, 6, 6, 6, 6, 6, 6, 6, 6, 6, 6, 6, 6, 6, 6, 6, 6, 6, 6, 6, 6, 6, 6, 6, 6, 6, 6, 6, 6, 7, 7, 7, 7, 7, 7, 7, 7, 7, 7, 7, 7, 7, 7, 7, 7, 7, 7, 7, 7, 7, 7, 7, 7, 7, 7, 7, 7, 7, 7, 7, 7, 7, 7, 7, 7, 7, 7, 7, 7, 7, 7, 7, 7, 7, 7, 7, 7, 7, 7, 7, 7, 7, 7, 7, 7, 7, 7, 7, 7, 7, 7, 7, 7, 8, 8, 8, 8, 8, 8, 8, 8, 8, 8, 8, 8, 8, 8, 8, 8, 8, 8, 8, 8, 8, 8, 8, 8, 8, 8, 8, 8, 8, 8, 8, 8, 8, 8, 8, 8, 8, 8, 8, 8, 8, 8, 8, 8, 8, 8, 8, 8, 8, 8, 8, 8, 8, 8, 8, 8, 8, 8, 8, 8, 8, 8, 8, 8, 8, 8, 8, 8, 8, 8, 8, 8, 8, 8, 8, 8, 8, 8, 8, 8, 8, 8, 8, 8, 8, 8, 8, 8, 8, 8, 8, 8, 8, 8, 8, 8, 8, 8, 8, 8, 8, 8, 8, 8, 8, 8, 8, 8, 8, 8, 8, 8, 8, 8, 8, 8, 8, 8, 8, 8, 8, 8, 8, 8, 8, 8, 8, 8]
def eLWJ (x : List (BitVec 16)) : List V := [vL 1 eW 0#16 x]
def cs2 : List UInt8 := [48, 49, 50, 51, 52, 53, 54, 55, 56, 57, 97, 98, 99, 100, 101, 102, 103, 104, 105, 106, 107, 108, 109, 110, 111, 112, 113, 114, 115, 116, 117, 118, 119, 120, 121, 122]
def cs3 : List UInt8 := [48, 48, 48, 49, 48, 50, 48, 51, 48, 52, 48, 53, 48, 54, 48, 55, 48, 56, 48, 57, 49, 48, 49, 49, 49, 50, 49, 51, 49, 52, 49, 53, 49, 54, 49, 55, 49, 56, 49, 57, 50, 48, 50, 49, 50, 50, 50, 51, 50, 52, 50, 53, 50, 54, 50, 55, 50, 56, 50, 57, 51, 48, 51, 49, 51, 50, 51, 51, 51, 52, 51, 53, 51, 54, 51, 55, 51, 56, 51, 57, 52, 48, 52, 49, 52, 50, 52, 51, 52, 52, 52, 53, 52, 54, 52, 55, 52, 56, 52, 57, 53, 48, 53, 49, 53, 50, 53, 51, 53, 52, 53, 53, 53, 54, 53, 55, 53, 56, 53, 57, 54, 48, 54, 49, 54, 50, 54, 51, 54, 52, 54, 53, 54, 54, 54, 55, 54, 56, 54, 57, 55, 48, 55, 49, 55, 50, 55, 51, 55, 52, 55, 53, 55, 54, 55, 55, 55, 56, 55, 57, 56, 48, 56, 49, 56, 50, 56, 51, 56, 52, 56, 53, 56, 54, 56, 55, 56, 56, 56, 57, 57, 48, 57, 49, 57, 50, 57, 51, 57, 52, 57, 53, 57, 54, 57, 55, 57, 56, 57, 57]
def eU8 (x : Int) : List V := [.int .u8 x]
theorem eU8_flat (x : Int) (j : Nat) : ((eU8 x).getD j .any).flat = true := by
  match j with
  | 0 => rfl
  | _ + 1 => rfl
def eS (x : List UInt8) : List V := [.str x]
theorem eS_flat (x : List UInt8) (j : Nat) : ((eS x).getD j .any).flat = true := by
  match j with
  | 0 => rfl
  | _ + 1 => rfl
def cs4 : List UInt8 := [123, 48, 32, 49, 32, 51, 125, 32, 123, 48, 32, 50, 32, 51, 125, 32, 123, 49, 32, 50, 32, 51, 125]
def f82 (x1 : BitVec 16) : Option Int :=
  chk ((((x1 >>> 8).toNat : Nat) : Int) < ((cs0.length : Nat) : Int)) <|
  chk ((((x1 &&& (BitVec.ofInt 16 255)).toNat : Nat) : Int) < ((cs0.length : Nat) : Int)) <|
  chk (((((cs0.getD ((x1 >>> 8).toNat) 0).toNat : Nat) : Int) + (((cs0.getD ((x1 &&& (BitVec.ofInt 16 255)).toNat) 0).toNat : Nat) : Int)) ≤ 255) <|
  chk (((((cs0.getD ((x1 >>> 8).toNat) 0).toNat + (cs0.getD ((x1 &&& (BitVec.ofInt 16 255)).toNat) 0).toNat) : Nat) : Int) ≤ 9223372036854775807) <|
  some ((((cs0.getD ((x1 >>> 8).toNat) 0).toNat + (cs0.getD ((x1 &&& (BitVec.ofInt 16 255)).toNat) 0).toNat) : Nat) : Int)
set_option maxRecDepth 100000 in
theorem f82_ok  (x1 : BitVec 16) (r : Int) (h : f82 x1 = some r)  : Spec1 Tryd.prog 82 [] [] [] [.b16 x1] (.int .i64 r) [] := by
  unfold f82 at h
  refine Spec1.body 0 _ _ Tryd.func82 rfl Tryd.ntmps82 rfl rfl ?_
  refine AWp.seq ?_
  refine AWp.regC [] [] [0] [] ⟨11, [(0, .b16 x1)], [], [], 0⟩ (True) Tryd_mixed (by kernel_rfl) trivial ?_
  refine thenQ_normal ?_
  refine AWp.seq ?_
  have ob0 : 0 ≤ (8 : Int) := by first | decide | omega | simp | (intro h; cases h)
  obtain ⟨ob1p, h⟩ := chk_some h
  have ob1 : 0 ≤ (((x1 >>> 8).toNat : Nat) : Int) ∧ (((x1 >>> 8).toNat : Nat) : Int) < ((cs0.length : Nat) : Int) := ⟨by omega, ob1p⟩
  obtain ⟨ob2p, h⟩ := chk_some h
  have ob2 : 0 ≤ (((x1 &&& (BitVec.ofInt 16 255)).toNat : Nat) : Int) ∧ (((x1 &&& (BitVec.ofInt 16 255)).toNat : Nat) : Int) < ((cs0.length : Nat) : Int) := ⟨by omega, ob2p⟩
  obtain ⟨ob3p, h⟩ := chk_some h
  have ob3 : 0 ≤ ((((cs0.getD ((x1 >>> 8).toNat) 0).toNat : Nat) : Int) + (((cs0.getD ((x1 &&& (BitVec.ofInt 16 255)).toNat) 0).toNat : Nat) : Int)) ∧ ((((cs0.getD ((x1 >>> 8).toNat) 0).toNat : Nat) : Int) + (((cs0.getD ((x1 &&& (BitVec.ofInt 16 255)).toNat) 0).toNat : Nat) : Int)) ≤ 255 := ⟨by omega, ob3p⟩
  obtain ⟨ob4p, h⟩ := chk_some h
  have ob4 : -9223372036854775808 ≤ ((((cs0.getD ((x1 >>> 8).toNat) 0).toNat + (cs0.getD ((x1 &&& (BitVec.ofInt 16 255)).toNat) 0).toNat) : Nat) : Int) ∧ ((((cs0.getD ((x1 >>> 8).toNat) 0).toNat + (cs0.getD ((x1 &&& (BitVec.ofInt 16 255)).toNat) 0).toNat) : Nat) : Int) ≤ 9223372036854775807 := ⟨by omega, ob4p⟩
  refine AWp.regC [] [] [2] [] ⟨11, [(2, .int .i64 ((((cs0.getD ((x1 >>> 8).toNat) 0).toNat + (cs0.getD ((x1 &&& (BitVec.ofInt 16 255)).toNat) 0).toNat) : Nat) : Int))], [], [], 0⟩ ((0 ≤ (8 : Int)) ∧ (0 ≤ (((x1 >>> 8).toNat : Nat) : Int) ∧ (((x1 >>> 8).toNat : Nat) : Int) < ((cs0.length : Nat) : Int)) ∧ (0 ≤ (((x1 &&& (BitVec.ofInt 16 255)).toNat : Nat) : Int) ∧ (((x1 &&& (BitVec.ofInt 16 255)).toNat : Nat) : Int) < ((cs0.length : Nat) : Int)) ∧ (0 ≤ ((((cs0.getD ((x1 >>> 8).toNat) 0).toNat : Nat) : Int) + (((cs0.getD ((x1 &&& (BitVec.ofInt 16 255)).toNat) 0).toNat : Nat) : Int)) ∧ ((((cs0.getD ((x1 >>> 8).toNat) 0).toNat : Nat) : Int) + (((cs0.getD ((x1 &&& (BitVec.ofInt 16 255)).toNat) 0).toNat : Nat) : Int)) ≤ 255) ∧ (-9223372036854775808 ≤ ((((cs0.getD ((x1 >>> 8).toNat) 0).toNat + (cs0.getD ((x1 &&& (BitVec.ofInt 16 255)).toNat) 0).toNat) : Nat) : Int) ∧ ((((cs0.getD ((x1 >>> 8).toNat) 0).toNat + (cs0.getD ((x1 &&& (BitVec.ofInt 16 255)).toNat) 0).toNat) : Nat) : Int) ≤ 9223372036854775807) ∧ True) Tryd_mixed (by kernel_rfl) ⟨ob0, ob1, ob2, ob3, ob4, trivial⟩ ?_
  refine thenQ_normal ?_
  have hret := Option.some.inj h
  subst hret
  refine AWp.le (Le.mk (s := ⟨11, [(2, .int .i64 ((((cs0.getD ((x1 >>> 8).toNat) 0).toNat + (cs0.getD ((x1 &&& (BitVec.ofInt 16 255)).toNat) 0).toNat) : Nat) : Int))], [], [], 0⟩) (s' := ⟨11, [(2, .int .i64 ((((cs0.getD ((x1 >>> 8).toNat) 0).toNat + (cs0.getD ((x1 &&& (BitVec.ofInt 16 255)).toNat) 0).toNat) : Nat) : Int))], [], [], 0⟩) rfl rfl ⟨.refl _, trivial⟩ trivial) ?_
  refine AWp.ret ?_
  exact bodyQ_ret _ rfl ⟨rfl, rfl⟩ rfl
def f64 (x1 : BitVec 16) : Option Int :=
  (f82 x1).bind fun (r2 : Int) =>
  some r2
set_option maxRecDepth 100000 in
theorem f64_ok  (x1 : BitVec 16) (r : Int) (h : f64 x1 = some r)  : Spec1 Tryd.prog 64 [] [] [] [.b16 x1] (.int .i64 r) [] := by
  unfold f64 at h
  refine Spec1.body 0 _ _ Tryd.func64 rfl Tryd.ntmps64 rfl rfl ?_
  refine AWp.seq ?_
  refine AWp.regC [] [] [0] [] ⟨5, [(0, .b16 x1)], [], [], 0⟩ (True) Tryd_mixed (by kernel_rfl) trivial ?_
  refine thenQ_normal ?_
  refine AWp.seq ?_
  obtain ⟨r2, hr2, h⟩ := bind_ok h
  refine AWp.regC [] [(1, ⟨[.b16 x1], [], [], [], .int .i64 r2, [], [], []⟩)] [2] [] ⟨5, [(2, .int .i64 r2)], [], [], 0⟩ ((callP Tryd.prog true 82 [] [] [] [] [] [.b16 x1] [.b16 x1] (.int .i64 r2) []) ∧ True) Tryd_mixed (by kernel_rfl) ⟨⟨fun _ => (f82_ok x1 r2 hr2), fun _ => ⟨.refl _, trivial⟩, .inl rfl⟩, trivial⟩ ?_
  refine thenQ_normal ?_
  have hret := Option.some.inj h
  subst hret
  refine AWp.le (Le.mk (s := ⟨5, [(2, .int .i64 r2)], [], [], 0⟩) (s' := ⟨5, [(2, .int .i64 r2)], [], [], 0⟩) rfl rfl ⟨.refl _, trivial⟩ trivial) ?_
  refine AWp.ret ?_
  exact bodyQ_ret _ rfl ⟨rfl, rfl⟩ rfl
def f81 (x1 : Int) : Option Bool :=
  some (x1 != x1)
set_option maxRecDepth 100000 in
theorem f81_ok  (x1 : Int) (r : Bool) (h : f81 x1 = some r)  : Spec1 Tryd.prog 81 [] [] [] [.int .i64 x1] (.bool r) [] := by
  unfold f81 at h
  refine Spec1.body 0 _ _ Tryd.func81 rfl Tryd.ntmps81 rfl rfl ?_
  refine AWp.seq ?_
  refine AWp.regC [] [] [0] [] ⟨6, [(0, .int .i64 x1)], [], [], 0⟩ (True) Tryd_mixed (by kernel_rfl) trivial ?_
  refine thenQ_normal ?_
  refine AWp.seq ?_
  refine AWp.regC [] [] [2] [] ⟨6, [(2, .bool (x1 != x1))], [], [], 0⟩ (True) Tryd_mixed (by kernel_rfl) trivial ?_
  refine thenQ_normal ?_
  have hret := Option.some.inj h
  subst hret
  refine AWp.le (Le.mk (s := ⟨6, [(2, .bool (x1 != x1))], [], [], 0⟩) (s' := ⟨6, [(2, .bool (x1 != x1))], [], [], 0⟩) rfl rfl ⟨.refl _, trivial⟩ trivial) ?_
  refine AWp.ret ?_
  exact bodyQ_ret _ rfl ⟨rfl, rfl⟩ rfl
def f63 (x1 : Int) (x2 : Int) : Option Int :=
  (f81 x1).bind fun (r3 : Bool) =>
  (f81 x2).bind fun (r4 : Bool) =>
  if r3 then (
  if r4 then (
  some (0 : Int)
  ) else (
  some (-1 : Int)
  )
  ) else (
  if r4 then (
  some (1 : Int)
  ) else (
  if (decide (x1 < x2)) then (
  some (-1 : Int)
  ) else (
  if (decide (x1 > x2)) then (
  some (1 : Int)
  ) else (
  some (0 : Int)
  )
  )
  )
  )
set_option maxRecDepth 100000 in
theorem f63_ok  (x1 : Int) (x2 : Int) (r : Int) (h : f63 x1 x2 = some r)  : Spec1 Tryd.prog 63 [] [] [] [.int .i64 x1, .int .i64 x2] (.int .i64 r) [] := by
  unfold f63 at h
  refine Spec1.body 0 _ _ Tryd.func63 rfl Tryd.ntmps63 rfl rfl ?_
  refine AWp.seq ?_
  refine AWp.regC [] [] [0, 1] [] ⟨20, [(0, .int .i64 x1), (1, .int .i64 x2)], [], [], 0⟩ (True) Tryd_mixed (by kernel_rfl) trivial ?_
  refine thenQ_normal ?_
  refine AWp.seq ?_
  obtain ⟨r3, hr3, h⟩ := bind_ok h
  refine AWp.regC [] [(1, ⟨[.int .i64 x1], [], [], [], .bool r3, [], [], []⟩)] [0, 1, 5] [] ⟨20, [(0, .int .i64 x1), (1, .int .i64 x2), (5, .bool r3)], [], [], 0⟩ ((callP Tryd.prog true 81 [] [] [] [] [] [.int .i64 x1] [.int .i64 x1] (.bool r3) []) ∧ True) Tryd_mixed (by kernel_rfl) ⟨⟨fun _ => (f81_ok x1 r3 hr3), fun _ => ⟨.refl _, trivial⟩, .inl rfl⟩, trivial⟩ ?_
  refine thenQ_normal ?_
  refine AWp.seq ?_
  obtain ⟨r4, hr4, h⟩ := bind_ok h
  refine AWp.regC [] [(1, ⟨[.int .i64 x2], [], [], [], .bool r4, [], [], []⟩)] [0, 1, 5, 6] [] ⟨20, [(0, .int .i64 x1), (1, .int .i64 x2), (5, .bool r3), (6, .bool r4)], [], [], 0⟩ ((callP Tryd.prog true 81 [] [] [] [] [] [.int .i64 x2] [.int .i64 x2] (.bool r4) []) ∧ True) Tryd_mixed (by kernel_rfl) ⟨⟨fun _ => (f81_ok x2 r4 hr4), fun _ => ⟨.refl _, trivial⟩, .inl rfl⟩, trivial⟩ ?_
  refine thenQ_normal ?_
  refine AWp.seq ?_
  refine AWp.seq ?_
  refine AWp.regC [] [] [0, 1, 6, 11] [] ⟨20, [(0, .int .i64 x1), (1, .int .i64 x2), (6, .bool r4), (11, .bool r3)], [], [], 0⟩ (True) Tryd_mixed (by kernel_rfl) trivial ?_
  refine thenQ_normal ?_
  refine AWp.cond (b := r3) (by kernel_rfl) (fun hc1 => ?_) (fun hc1 => ?_)
  ·
    replace h := ite_tb hc1 h
    refine AWp.seq ?_
    refine AWp.seq ?_
    refine AWp.regC [] [] [12] [] ⟨20, [(12, .bool r4)], [], [], 0⟩ (True) Tryd_mixed (by kernel_rfl) trivial ?_
    refine thenQ_normal ?_
    refine AWp.cond (b := r4) (by kernel_rfl) (fun hc2 => ?_) (fun hc2 => ?_)
    ·
      replace h := ite_tb hc2 h
      refine AWp.seq ?_
      refine AWp.regC [] [] [4] [] ⟨20, [(4, .int .i64 (0 : Int))], [], [], 0⟩ (True) Tryd_mixed (by kernel_rfl) trivial ?_
      refine thenQ_normal ?_
      have hret := Option.some.inj h
      subst hret
      refine AWp.le (Le.mk (s := ⟨20, [(4, .int .i64 (0 : Int))], [], [], 0⟩) (s' := ⟨20, [(4, .int .i64 (0 : Int))], [], [], 0⟩) rfl rfl ⟨.refl _, trivial⟩ trivial) ?_
      refine AWp.ret ?_
      refine thenQ_ret ?_
      refine thenQ_ret ?_
      exact bodyQ_ret _ rfl ⟨rfl, rfl⟩ rfl
    ·
      replace h := ite_fb hc2 h
      refine AWp.skip ?_
      refine thenQ_normal ?_
      refine AWp.seq ?_
      refine AWp.regC [] [] [4] [] ⟨20, [(4, .int .i64 (-1 : Int))], [], [], 0⟩ (True) Tryd_mixed (by kernel_rfl) trivial ?_
      refine thenQ_normal ?_
      have hret := Option.some.inj h
      subst hret
      refine AWp.le (Le.mk (s := ⟨20, [(4, .int .i64 (-1 : Int))], [], [], 0⟩) (s' := ⟨20, [(4, .int .i64 (-1 : Int))], [], [], 0⟩) rfl rfl ⟨.refl _, trivial⟩ trivial) ?_
      refine AWp.ret ?_
      refine thenQ_ret ?_
      exact bodyQ_ret _ rfl ⟨rfl, rfl⟩ rfl
  ·
    replace h := ite_fb hc1 h
    refine AWp.skip ?_
    refine thenQ_normal ?_
    refine AWp.seq ?_
    refine AWp.seq ?_
    refine AWp.regC [] [] [0, 1, 13] [] ⟨20, [(0, .int .i64 x1), (1, .int .i64 x2), (13, .bool r4)], [], [], 0⟩ (True) Tryd_mixed (by kernel_rfl) trivial ?_
    refine thenQ_normal ?_
    refine AWp.cond (b := r4) (by kernel_rfl) (fun hc3 => ?_) (fun hc3 => ?_)
    ·
      replace h := ite_tb hc3 h
      refine AWp.seq ?_
      refine AWp.regC [] [] [4] [] ⟨20, [(4, .int .i64 (1 : Int))], [], [], 0⟩ (True) Tryd_mixed (by kernel_rfl) trivial ?_
      refine thenQ_normal ?_
      have hret := Option.some.inj h
      subst hret
      refine AWp.le (Le.mk (s := ⟨20, [(4, .int .i64 (1 : Int))], [], [], 0⟩) (s' := ⟨20, [(4, .int .i64 (1 : Int))], [], [], 0⟩) rfl rfl ⟨.refl _, trivial⟩ trivial) ?_
      refine AWp.ret ?_
      refine thenQ_ret ?_
      exact bodyQ_ret _ rfl ⟨rfl, rfl⟩ rfl
    ·
      replace h := ite_fb hc3 h
      refine AWp.skip ?_
      refine thenQ_normal ?_
      refine AWp.seq ?_
      refine AWp.seq ?_
      refine AWp.regC [] [] [0, 1, 16] [] ⟨20, [(0, .int .i64 x1), (1, .int .i64 x2), (16, .bool (decide (x1 < x2)))], [], [], 0⟩ (True) Tryd_mixed (by kernel_rfl) trivial ?_
      refine thenQ_normal ?_
      refine AWp.cond (b := (decide (x1 < x2))) (by kernel_rfl) (fun hc4 => ?_) (fun hc4 => ?_)
      ·
        replace h := ite_tb hc4 h
        refine AWp.seq ?_
        refine AWp.regC [] [] [4] [] ⟨20, [(4, .int .i64 (-1 : Int))], [], [], 0⟩ (True) Tryd_mixed (by kernel_rfl) trivial ?_
        refine thenQ_normal ?_
        have hret := Option.some.inj h
        subst hret
        refine AWp.le (Le.mk (s := ⟨20, [(4, .int .i64 (-1 : Int))], [], [], 0⟩) (s' := ⟨20, [(4, .int .i64 (-1 : Int))], [], [], 0⟩) rfl rfl ⟨.refl _, trivial⟩ trivial) ?_
        refine AWp.ret ?_
        refine thenQ_ret ?_
        exact bodyQ_ret _ rfl ⟨rfl, rfl⟩ rfl
      ·
        replace h := ite_fb hc4 h
        refine AWp.skip ?_
        refine thenQ_normal ?_
        refine AWp.seq ?_
        refine AWp.seq ?_
        refine AWp.regC [] [] [19] [] ⟨20, [(19, .bool (decide (x1 > x2)))], [], [], 0⟩ (True) Tryd_mixed (by kernel_rfl) trivial ?_
        refine thenQ_normal ?_
        refine AWp.cond (b := (decide (x1 > x2))) (by kernel_rfl) (fun hc5 => ?_) (fun hc5 => ?_)
        ·
          replace h := ite_tb hc5 h
          refine AWp.seq ?_
          refine AWp.regC [] [] [4] [] ⟨20, [(4, .int .i64 (1 : Int))], [], [], 0⟩ (True) Tryd_mixed (by kernel_rfl) trivial ?_
          refine thenQ_normal ?_
          have hret := Option.some.inj h
          subst hret
          refine AWp.le (Le.mk (s := ⟨20, [(4, .int .i64 (1 : Int))], [], [], 0⟩) (s' := ⟨20, [(4, .int .i64 (1 : Int))], [], [], 0⟩) rfl rfl ⟨.refl _, trivial⟩ trivial) ?_
          refine AWp.ret ?_
          refine thenQ_ret ?_
          exact bodyQ_ret _ rfl ⟨rfl, rfl⟩ rfl
        ·
          replace h := ite_fb hc5 h
          refine AWp.skip ?_
          refine thenQ_normal ?_
          refine AWp.seq ?_
          refine AWp.regC [] [] [4] [] ⟨20, [(4, .int .i64 (0 : Int))], [], [], 0⟩ (True) Tryd_mixed (by kernel_rfl) trivial ?_
          refine thenQ_normal ?_
          have hret := Option.some.inj h
          subst hret
          refine AWp.le (Le.mk (s := ⟨20, [(4, .int .i64 (0 : Int))], [], [], 0⟩) (s' := ⟨20, [(4, .int .i64 (0 : Int))], [], [], 0⟩) rfl rfl ⟨.refl _, trivial⟩ trivial) ?_
          refine AWp.ret ?_
          exact bodyQ_ret _ rfl ⟨rfl, rfl⟩ rfl
def f83 (x1 : BitVec 16) : Option Bool :=
  some (!(x1 == x1))
set_option maxRecDepth 100000 in
theorem f83_ok  (x1 : BitVec 16) (r : Bool) (h : f83 x1 = some r)  : Spec1 Tryd.prog 83 [] [] [] [.b16 x1] (.bool r) [] := by
  unfold f83 at h
  refine Spec1.body 0 _ _ Tryd.func83 rfl Tryd.ntmps83 rfl rfl ?_
  refine AWp.seq ?_
  refine AWp.regC [] [] [0] [] ⟨6, [(0, .b16 x1)], [], [], 0⟩ (True) Tryd_mixed (by kernel_rfl) trivial ?_
  refine thenQ_normal ?_
  refine AWp.seq ?_
  refine AWp.regC [] [] [2] [] ⟨6, [(2, .bool (!(x1 == x1)))], [], [], 0⟩ (True) Tryd_mixed (by kernel_rfl) trivial ?_
  refine thenQ_normal ?_
  have hret := Option.some.inj h
  subst hret
  refine AWp.le (Le.mk (s := ⟨6, [(2, .bool (!(x1 == x1)))], [], [], 0⟩) (s' := ⟨6, [(2, .bool (!(x1 == x1)))], [], [], 0⟩) rfl rfl ⟨.refl _, trivial⟩ trivial) ?_
  refine AWp.ret ?_
  exact bodyQ_ret _ rfl ⟨rfl, rfl⟩ rfl
def f65 (x1 : BitVec 16) (x2 : BitVec 16) : Option Int :=
  (f83 x1).bind fun (r3 : Bool) =>
  (f83 x2).bind fun (r4 : Bool) =>
  if r3 then (
  if r4 then (
  some (0 : Int)
  ) else (
  some (-1 : Int)
  )
  ) else (
  if r4 then (
  some (1 : Int)
  ) else (
  if (decide (x1.toNat < x2.toNat)) then (
  some (-1 : Int)
  ) else (
  if (decide (x1.toNat > x2.toNat)) then (
  some (1 : Int)
  ) else (
  some (0 : Int)
  )
  )
  )
  )
set_option maxRecDepth 100000 in
theorem f65_ok  (x1 : BitVec 16) (x2 : BitVec 16) (r : Int) (h : f65 x1 x2 = some r)  : Spec1 Tryd.prog 65 [] [] [] [.b16 x1, .b16 x2] (.int .i64 r) [] := by
  unfold f65 at h
  refine Spec1.body 0 _ _ Tryd.func65 rfl Tryd.ntmps65 rfl rfl ?_
  refine AWp.seq ?_
  refine AWp.regC [] [] [0, 1] [] ⟨20, [(0, .b16 x1), (1, .b16 x2)], [], [], 0⟩ (True) Tryd_mixed (by kernel_rfl) trivial ?_
  refine thenQ_normal ?_
  refine AWp.seq ?_
  obtain ⟨r3, hr3, h⟩ := bind_ok h
  refine AWp.regC [] [(1, ⟨[.b16 x1], [], [], [], .bool r3, [], [], []⟩)] [0, 1, 5] [] ⟨20, [(0, .b16 x1), (1, .b16 x2), (5, .bool r3)], [], [], 0⟩ ((callP Tryd.prog true 83 [] [] [] [] [] [.b16 x1] [.b16 x1] (.bool r3) []) ∧ True) Tryd_mixed (by kernel_rfl) ⟨⟨fun _ => (f83_ok x1 r3 hr3), fun _ => ⟨.refl _, trivial⟩, .inl rfl⟩, trivial⟩ ?_
  refine thenQ_normal ?_
  refine AWp.seq ?_
  obtain ⟨r4, hr4, h⟩ := bind_ok h
  refine AWp.regC [] [(1, ⟨[.b16 x2], [], [], [], .bool r4, [], [], []⟩)] [0, 1, 5, 6] [] ⟨20, [(0, .b16 x1), (1, .b16 x2), (5, .bool r3), (6, .bool r4)], [], [], 0⟩ ((callP Tryd.prog true 83 [] [] [] [] [] [.b16 x2] [.b16 x2] (.bool r4) []) ∧ True) Tryd_mixed (by kernel_rfl) ⟨⟨fun _ => (f83_ok x2 r4 hr4), fun _ => ⟨.refl _, trivial⟩, .inl rfl⟩, trivial⟩ ?_
  refine thenQ_normal ?_
  refine AWp.seq ?_
  refine AWp.seq ?_
  refine AWp.regC [] [] [0, 1, 6, 11] [] ⟨20, [(0, .b16 x1), (1, .b16 x2), (6, .bool r4), (11, .bool r3)], [], [], 0⟩ (True) Tryd_mixed (by kernel_rfl) trivial ?_
  refine thenQ_normal ?_
  refine AWp.cond (b := r3) (by kernel_rfl) (fun hc1 => ?_) (fun hc1 => ?_)
  ·
    replace h := ite_tb hc1 h
    refine AWp.seq ?_
    refine AWp.seq ?_
    refine AWp.regC [] [] [12] [] ⟨20, [(12, .bool r4)], [], [], 0⟩ (True) Tryd_mixed (by kernel_rfl) trivial ?_
    refine thenQ_normal ?_
    refine AWp.cond (b := r4) (by kernel_rfl) (fun hc2 => ?_) (fun hc2 => ?_)
    ·
      replace h := ite_tb hc2 h
      refine AWp.seq ?_
      refine AWp.regC [] [] [4] [] ⟨20, [(4, .int .i64 (0 : Int))], [], [], 0⟩ (True) Tryd_mixed (by kernel_rfl) trivial ?_
      refine thenQ_normal ?_
      have hret := Option.some.inj h
      subst hret
      refine AWp.le (Le.mk (s := ⟨20, [(4, .int .i64 (0 : Int))], [], [], 0⟩) (s' := ⟨20, [(4, .int .i64 (0 : Int))], [], [], 0⟩) rfl rfl ⟨.refl _, trivial⟩ trivial) ?_
      refine AWp.ret ?_
      refine thenQ_ret ?_
      refine thenQ_ret ?_
      exact bodyQ_ret _ rfl ⟨rfl, rfl⟩ rfl
    ·
      replace h := ite_fb hc2 h
      refine AWp.skip ?_
      refine thenQ_normal ?_
      refine AWp.seq ?_
      refine AWp.regC [] [] [4] [] ⟨20, [(4, .int .i64 (-1 : Int))], [], [], 0⟩ (True) Tryd_mixed (by kernel_rfl) trivial ?_
      refine thenQ_normal ?_
      have hret := Option.some.inj h
      subst hret
      refine AWp.le (Le.mk (s := ⟨20, [(4, .int .i64 (-1 : Int))], [], [], 0⟩) (s' := ⟨20, [(4, .int .i64 (-1 : Int))], [], [], 0⟩) rfl rfl ⟨.refl _, trivial⟩ trivial) ?_
      refine AWp.ret ?_
      refine thenQ_ret ?_
      exact bodyQ_ret _ rfl ⟨rfl, rfl⟩ rfl
  ·
    replace h := ite_fb hc1 h
    refine AWp.skip ?_
    refine thenQ_normal ?_
    refine AWp.seq ?_
    refine AWp.seq ?_
    refine AWp.regC [] [] [0, 1, 13] [] ⟨20, [(0, .b16 x1), (1, .b16 x2), (13, .bool r4)], [], [], 0⟩ (True) Tryd_mixed (by kernel_rfl) trivial ?_
    refine thenQ_normal ?_
    refine AWp.cond (b := r4) (by kernel_rfl) (fun hc3 => ?_) (fun hc3 => ?_)
    ·
      replace h := ite_tb hc3 h
      refine AWp.seq ?_
      refine AWp.regC [] [] [4] [] ⟨20, [(4, .int .i64 (1 : Int))], [], [], 0⟩ (True) Tryd_mixed (by kernel_rfl) trivial ?_
      refine thenQ_normal ?_
      have hret := Option.some.inj h
      subst hret
      refine AWp.le (Le.mk (s := ⟨20, [(4, .int .i64 (1 : Int))], [], [], 0⟩) (s' := ⟨20, [(4, .int .i64 (1 : Int))], [], [], 0⟩) rfl rfl ⟨.refl _, trivial⟩ trivial) ?_
      refine AWp.ret ?_
      refine thenQ_ret ?_
      exact bodyQ_ret _ rfl ⟨rfl, rfl⟩ rfl
    ·
      replace h := ite_fb hc3 h
      refine AWp.skip ?_
      refine thenQ_normal ?_
      refine AWp.seq ?_
      refine AWp.seq ?_
      refine AWp.regC [] [] [0, 1, 16] [] ⟨20, [(0, .b16 x1), (1, .b16 x2), (16, .bool (decide (x1.toNat < x2.toNat)))], [], [], 0⟩ (True) Tryd_mixed (by kernel_rfl) trivial ?_
      refine thenQ_normal ?_
      refine AWp.cond (b := (decide (x1.toNat < x2.toNat))) (by kernel_rfl) (fun hc4 => ?_) (fun hc4 => ?_)
      ·
        replace h := ite_tb hc4 h
        refine AWp.seq ?_
        refine AWp.regC [] [] [4] [] ⟨20, [(4, .int .i64 (-1 : Int))], [], [], 0⟩ (True) Tryd_mixed (by kernel_rfl) trivial ?_
        refine thenQ_normal ?_
        have hret := Option.some.inj h
        subst hret
        refine AWp.le (Le.mk (s := ⟨20, [(4, .int .i64 (-1 : Int))], [], [], 0⟩) (s' := ⟨20, [(4, .int .i64 (-1 : Int))], [], [], 0⟩) rfl rfl ⟨.refl _, trivial⟩ trivial) ?_
        refine AWp.ret ?_
        refine thenQ_ret ?_
        exact bodyQ_ret _ rfl ⟨rfl, rfl⟩ rfl
      ·
        replace h := ite_fb hc4 h
        refine AWp.skip ?_
        refine thenQ_normal ?_
        refine AWp.seq ?_
        refine AWp.seq ?_
        refine AWp.regC [] [] [19] [] ⟨20, [(19, .bool (decide (x1.toNat > x2.toNat)))], [], [], 0⟩ (True) Tryd_mixed (by kernel_rfl) trivial ?_
        refine thenQ_normal ?_
        refine AWp.cond (b := (decide (x1.toNat > x2.toNat))) (by kernel_rfl) (fun hc5 => ?_) (fun hc5 => ?_)
        ·
          replace h := ite_tb hc5 h
          refine AWp.seq ?_
          refine AWp.regC [] [] [4] [] ⟨20, [(4, .int .i64 (1 : Int))], [], [], 0⟩ (True) Tryd_mixed (by kernel_rfl) trivial ?_
          refine thenQ_normal ?_
          have hret := Option.some.inj h
          subst hret
          refine AWp.le (Le.mk (s := ⟨20, [(4, .int .i64 (1 : Int))], [], [], 0⟩) (s' := ⟨20, [(4, .int .i64 (1 : Int))], [], [], 0⟩) rfl rfl ⟨.refl _, trivial⟩ trivial) ?_
          refine AWp.ret ?_
          refine thenQ_ret ?_
          exact bodyQ_ret _ rfl ⟨rfl, rfl⟩ rfl
        ·
          replace h := ite_fb hc5 h
          refine AWp.skip ?_
          refine thenQ_normal ?_
          refine AWp.seq ?_
          refine AWp.regC [] [] [4] [] ⟨20, [(4, .int .i64 (0 : Int))], [], [], 0⟩ (True) Tryd_mixed (by kernel_rfl) trivial ?_
          refine thenQ_normal ?_
          have hret := Option.some.inj h
          subst hret
          refine AWp.le (Le.mk (s := ⟨20, [(4, .int .i64 (0 : Int))], [], [], 0⟩) (s' := ⟨20, [(4, .int .i64 (0 : Int))], [], [], 0⟩) rfl rfl ⟨.refl _, trivial⟩ trivial) ?_
          refine AWp.ret ?_
          exact bodyQ_ret _ rfl ⟨rfl, rfl⟩ rfl
def f62_L0 (x1 : List Int) (K1 : Unit → Option Int) : Nat → Nat → Option Int
  | 0, _ => none
  | k + 1, n2 =>
    if (decide (((n2 : Nat) : Int) < (((x1).length : Nat) : Int))) then (
    chk (((n2 : Nat) : Int) < (((x1).length : Nat) : Int)) <|
    if ((x1.getD n2 0) != (0 : Int)) then (
    some (x1.getD n2 0)
    ) else (
    chk ((((n2 : Nat) : Int) + (1 : Int)) ≤ 9223372036854775807) <|
    (f62_L0 x1 K1 k) (n2 + 1)
    )
    ) else (
    K1 ()
    )
def f62 (x1 : List Int) : Option Int :=
  jn (fun (_ : Unit) =>
  some (0 : Int)
  ) fun (K1 : Unit → Option Int) =>
  f62_L0 x1 K1 FUEL 0
set_option maxRecDepth 100000 in
theorem f62_ok  (x1 : List Int) (r : Int) (h : f62 x1 = some r)  : Spec1 Tryd.prog 62 [] [] [] [vL 1 eI 0 x1] (.int .i64 r) [] := by
  unfold f62 at h
  refine Spec1.body 0 _ _ Tryd.func62 rfl Tryd.ntmps62 rfl rfl ?_
  refine AWp.seq ?_
  refine AWp.regC [] [] [0] [] ⟨18, [(0, vL 1 eI 0 x1)], [], [], 0⟩ (True) Tryd_mixed (by kernel_rfl) trivial ?_
  refine thenQ_normal ?_
  refine AWp.seq ?_
  refine AWp.regC [] [] [0, 3] [] ⟨18, [(0, vL 1 eI 0 x1), (3, .int .i64 (0 : Int))], [], [], 0⟩ (True) Tryd_mixed (by kernel_rfl) trivial ?_
  refine thenQ_normal ?_
  obtain ⟨K1, hK1, h⟩ := jn_some h
  refine AWp.join (α := Unit) (fun (x : Unit) => match x with | () => ⟨18, [(3, .int .i64 (0 : Int))], [], [], 0⟩) (fun x => K1 x = some r) ?_ ?_
  ·
    refine AWp.seq ?_
    refine AWp.regC [] [] [3, 6, 7, 8] [] ⟨18, [(3, .int .i64 (0 : Int)), (6, vL 1 eI 0 x1), (7, .int .i64 (((x1).length : Nat) : Int)), (8, .int .i64 (0 : Int))], [], [], 0⟩ (True) Tryd_mixed (by kernel_rfl) trivial ?_
    refine thenQ_normal ?_
    refine AWp.block ?_
    refine AWp.loopL (α := Nat × Nat) (fun x => match x with | (_, n2) => ⟨18, [(3, .int .i64 (0 : Int)), (6, vL 1 eI 0 x1), (7, .int .i64 (((x1).length : Nat) : Int)), (8, .int .i64 ((n2 : Nat) : Int))], [], [], 0⟩) (fun x => f62_L0 x1 K1 x.1 x.2 = some r) (fun x => x.1) (FUEL, 0) (Le.mk (s := ⟨18, [(3, .int .i64 (0 : Int)), (6, vL 1 eI 0 x1), (7, .int .i64 (((x1).length : Nat) : Int)), (8, .int .i64 (0 : Int))], [], [], 0⟩) (s' := ⟨18, [(3, .int .i64 (0 : Int)), (6, vL 1 eI 0 x1), (7, .int .i64 (((x1).length : Nat) : Int)), (8, .int .i64 (0 : Int))], [], [], 0⟩) rfl rfl ⟨.refl _, .refl _, .refl _, .refl _, trivial⟩ trivial) h ?_
    rintro ⟨k0, n2⟩ h
    cases k0 with
    | zero => exact nomatch (show (none : Option Int) = some r from h)
    | succ k0 =>
    obtain ⟨C0, hC0⟩ : ∃ C, C = f62_L0 x1 K1 k0 := ⟨_, rfl⟩
    replace h := (f62_L0.eq_2 ..).symm.trans h
    try rw [← hC0] at h
    refine AWp.seq ?_
    refine AWp.regC [] [] [3, 6, 7, 8, 9] [] ⟨18, [(3, .int .i64 (0 : Int)), (6, vL 1 eI 0 x1), (7, .int .i64 (((x1).length : Nat) : Int)), (8, .int .i64 ((n2 : Nat) : Int)), (9, .bool (decide (((n2 : Nat) : Int) < (((x1).length : Nat) : Int))))], [], [], 0⟩ (True) Tryd_mixed (by kernel_rfl) trivial ?_
    refine thenQ_normal ?_
    refine AWp.seq ?_
    refine AWp.cond (b := (decide (((n2 : Nat) : Int) < (((x1).length : Nat) : Int)))) (by kernel_rfl) (fun hc1 => ?_) (fun hc1 => ?_)
    ·
      replace h := ite_tb hc1 h
      refine AWp.skip ?_
      refine thenQ_normal ?_
      refine AWp.seq ?_
      refine AWp.block ?_
      refine AWp.seq ?_
      obtain ⟨ob0p, h⟩ := chk_some h
      have ob0 : 0 ≤ ((n2 : Nat) : Int) ∧ ((n2 : Nat) : Int) < (((x1).length : Nat) : Int) := ⟨by omega, ob0p⟩
      refine AWp.regC [] [] [3, 5, 6, 7, 8] [] ⟨18, [(3, .int .i64 (0 : Int)), (5, .int .i64 (x1.getD n2 0)), (6, vL 1 eI 0 x1), (7, .int .i64 (((x1).length : Nat) : Int)), (8, .int .i64 ((n2 : Nat) : Int))], [], [], 0⟩ ((0 ≤ ((n2 : Nat) : Int) ∧ ((n2 : Nat) : Int) < (((x1).length : Nat) : Int)) ∧ True) Tryd_mixed (by kernel_rfl) ⟨ob0, trivial⟩ ?_
      refine thenQ_normal ?_
      refine AWp.seq ?_
      refine AWp.regC [] [] [3, 5, 6, 7, 8, 14] [] ⟨18, [(3, .int .i64 (0 : Int)), (5, .int .i64 (x1.getD n2 0)), (6, vL 1 eI 0 x1), (7, .int .i64 (((x1).length : Nat) : Int)), (8, .int .i64 ((n2 : Nat) : Int)), (14, .bool ((x1.getD n2 0) != (0 : Int)))], [], [], 0⟩ (True) Tryd_mixed (by kernel_rfl) trivial ?_
      refine thenQ_normal ?_
      refine AWp.cond (b := ((x1.getD n2 0) != (0 : Int))) (by kernel_rfl) (fun hc2 => ?_) (fun hc2 => ?_)
      ·
        replace h := ite_tb hc2 h
        refine AWp.seq ?_
        refine AWp.regC [] [] [2] [] ⟨18, [(2, .int .i64 (x1.getD n2 0))], [], [], 0⟩ (True) Tryd_mixed (by kernel_rfl) trivial ?_
        refine thenQ_normal ?_
        have hret := Option.some.inj h
        subst hret
        refine AWp.le (Le.mk (s := ⟨18, [(2, .int .i64 (x1.getD n2 0))], [], [], 0⟩) (s' := ⟨18, [(2, .int .i64 (x1.getD n2 0))], [], [], 0⟩) rfl rfl ⟨.refl _, trivial⟩ trivial) ?_
        refine AWp.ret ?_
        refine blockQ_ret ?_
        refine thenQ_ret ?_
        refine thenQ_ret ?_
        refine blockQ_ret ?_
        refine joinQ_ret ?_
        exact bodyQ_ret _ rfl ⟨rfl, rfl⟩ rfl
      ·
        replace h := ite_fb hc2 h
        refine AWp.skip ?_
        refine blockQ_normal ?_
        refine thenQ_normal ?_
        obtain ⟨ob1p, h⟩ := chk_some h
        have ob1 : -9223372036854775808 ≤ (((n2 : Nat) : Int) + (1 : Int)) ∧ (((n2 : Nat) : Int) + (1 : Int)) ≤ 9223372036854775807 := ⟨by omega, ob1p⟩
        refine AWp.regC [] [] [3, 6, 7, 8] [] ⟨18, [(3, .int .i64 (0 : Int)), (6, vL 1 eI 0 x1), (7, .int .i64 (((x1).length : Nat) : Int)), (8, .int .i64 (((n2 + 1) : Nat) : Int))], [], [], 0⟩ ((-9223372036854775808 ≤ (((n2 : Nat) : Int) + (1 : Int)) ∧ (((n2 : Nat) : Int) + (1 : Int)) ≤ 9223372036854775807) ∧ True) Tryd_mixed (by kernel_rfl) ⟨ob1, trivial⟩ ?_
        rw [hC0] at h
        exact loopQ_normal (_, (n2 + 1)) (Le.mk (s := ⟨18, [(3, .int .i64 (0 : Int)), (6, vL 1 eI 0 x1), (7, .int .i64 (((x1).length : Nat) : Int)), (8, .int .i64 (((n2 + 1) : Nat) : Int))], [], [], 0⟩) (s' := ⟨18, [(3, .int .i64 (0 : Int)), (6, vL 1 eI 0 x1), (7, .int .i64 (((x1).length : Nat) : Int)), (8, .int .i64 (((n2 + 1) : Nat) : Int))], [], [], 0⟩) rfl rfl ⟨.refl _, .refl _, .refl _, .refl _, trivial⟩ trivial) h (Nat.lt_succ_self _)
    ·
      replace h := ite_fb hc1 h
      refine AWp.exit ?_
      refine thenQ_exit ?_
      refine thenQ_exit ?_
      refine blockQ_same ?_
      exact joinQ_normal () (Le.mk (s := ⟨18, [(3, .int .i64 (0 : Int)), (6, vL 1 eI 0 x1), (7, .int .i64 (((x1).length : Nat) : Int)), (8, .int .i64 ((n2 : Nat) : Int)), (9, .bool (decide (((n2 : Nat) : Int) < (((x1).length : Nat) : Int))))], [], [], 0⟩) (s' := ⟨18, [(3, .int .i64 (0 : Int))], [], [], 0⟩) rfl rfl ⟨.refl _, trivial⟩ trivial) h
  ·
    rintro ⟨⟩ h
    replace h := (congrFun hK1 _).symm.trans h
    refine AWp.seq ?_
    refine AWp.regC [] [] [2] [] ⟨18, [(2, .int .i64 (0 : Int))], [], [], 0⟩ (True) Tryd_mixed (by kernel_rfl) trivial ?_
    refine thenQ_normal ?_
    have hret := Option.some.inj h
    subst hret
    refine AWp.le (Le.mk (s := ⟨18, [(2, .int .i64 (0 : Int))], [], [], 0⟩) (s' := ⟨18, [(2, .int .i64 (0 : Int))], [], [], 0⟩) rfl rfl ⟨.refl _, trivial⟩ trivial) ?_
    refine AWp.ret ?_
    exact bodyQ_ret _ rfl ⟨rfl, rfl⟩ rfl
def f38 (x1 : BitVec 16) (x2 : BitVec 16) : Option Int :=
  (f64 x1).bind fun (r3 : Int) =>
  (f64 x2).bind fun (r4 : Int) =>
  (f63 r3 r4).bind fun (r5 : Int) =>
  (f65 x1 x2).bind fun (r6 : Int) =>
  (f62 [r5, r6]).bind fun (r7 : Int) =>
  some r7
set_option maxRecDepth 100000 in
theorem f38_ok  (x1 : BitVec 16) (x2 : BitVec 16) (r : Int) (h : f38 x1 x2 = some r)  : Spec1 Tryd.prog 38 [] [] [] [.b16 x1, .b16 x2] (.int .i64 r) [] := by
  unfold f38 at h
  refine Spec1.body 0 _ _ Tryd.func38 rfl Tryd.ntmps38 rfl rfl ?_
  refine AWp.seq ?_
  refine AWp.regC [] [] [0, 1] [] ⟨15, [(0, .b16 x1), (1, .b16 x2)], [], [], 0⟩ (True) Tryd_mixed (by kernel_rfl) trivial ?_
  refine thenQ_normal ?_
  refine AWp.seq ?_
  obtain ⟨r3, hr3, h⟩ := bind_ok h
  obtain ⟨r4, hr4, h⟩ := bind_ok h
  obtain ⟨r5, hr5, h⟩ := bind_ok h
  obtain ⟨r6, hr6, h⟩ := bind_ok h
  obtain ⟨r7, hr7, h⟩ := bind_ok h
  refine AWp.regC [] [(1, ⟨[.b16 x1], [], [], [], .int .i64 r3, [], [], []⟩), (3, ⟨[.b16 x2], [], [], [], .int .i64 r4, [], [], []⟩), (4, ⟨[.int .i64 r3, .int .i64 r4], [], [], [], .int .i64 r5, [], [], []⟩), (7, ⟨[.b16 x1, .b16 x2], [], [], [], .int .i64 r6, [], [], []⟩), (9, ⟨[vL 1 eI 0 [r5, r6]], [], [], [], .int .i64 r7, [], [13], []⟩)] [4] [] ⟨15, [(4, .int .i64 r7)], [], [], 0⟩ ((callP Tryd.prog true 64 [] [] [] [] [] [.b16 x1] [.b16 x1] (.int .i64 r3) []) ∧ (callP Tryd.prog true 64 [] [] [] [] [] [.b16 x2] [.b16 x2] (.int .i64 r4) []) ∧ (callP Tryd.prog true 63 [] [] [] [] [] [.int .i64 r3, .int .i64 r4] [.int .i64 r3, .int .i64 r4] (.int .i64 r5) []) ∧ (callP Tryd.prog true 65 [] [] [] [] [] [.b16 x1, .b16 x2] [.b16 x1, .b16 x2] (.int .i64 r6) []) ∧ (callP Tryd.prog true 62 [] [] [] [(13, .rows 3 1 2 (lstF 1 [.int .i64 r5, .int .i64 r6]))] [13] [.own 13] [vL 1 eI 0 [r5, r6]] (.int .i64 r7) []) ∧ True) Tryd_mixed (by kernel_rfl) ⟨⟨fun _ => (f64_ok x1 r3 hr3), fun _ => ⟨.refl _, trivial⟩, .inl rfl⟩, ⟨fun _ => (f64_ok x2 r4 hr4), fun _ => ⟨.refl _, trivial⟩, .inl rfl⟩, ⟨fun _ => (f63_ok r3 r4 r5 hr5), fun _ => ⟨.refl _, .refl _, trivial⟩, .inl rfl⟩, ⟨fun _ => (f65_ok x1 x2 r6 hr6), fun _ => ⟨.refl _, .refl _, trivial⟩, .inl rfl⟩, ⟨fun _ => (f62_ok [r5, r6] r7 hr7), fun _ => ⟨(VLe.of (RL.lst (enc := eI) [r5, r6] rfl rfl (fun _ => rfl))), trivial⟩, .inr ⟨rfl, trivial⟩⟩, trivial⟩ ?_
  refine thenQ_normal ?_
  have hret := Option.some.inj h
  subst hret
  refine AWp.le (Le.mk (s := ⟨15, [(4, .int .i64 r7)], [], [], 0⟩) (s' := ⟨15, [(4, .int .i64 r7)], [], [], 0⟩) rfl rfl ⟨.refl _, trivial⟩ trivial) ?_
  refine AWp.ret ?_
  exact bodyQ_ret _ rfl ⟨rfl, rfl⟩ rfl
def f55 (x1 : BitVec 16) (x2 : BitVec 16) : Option Bool :=
  some ((x2 &&& ~~~x1) == (BitVec.ofInt 16 0))
set_option maxRecDepth 100000 in
theorem f55_ok  (x1 : BitVec 16) (x2 : BitVec 16) (r : Bool) (h : f55 x1 x2 = some r)  : Spec1 Tryd.prog 55 [] [] [] [.b16 x1, .b16 x2] (.bool r) [] := by
  unfold f55 at h
  refine Spec1.body 0 _ _ Tryd.func55 rfl Tryd.ntmps55 rfl rfl ?_
  refine AWp.seq ?_
  refine AWp.regC [] [] [0, 1] [] ⟨9, [(0, .b16 x1), (1, .b16 x2)], [], [], 0⟩ (True) Tryd_mixed (by kernel_rfl) trivial ?_
  refine thenQ_normal ?_
  refine AWp.seq ?_
  refine AWp.regC [] [] [4] [] ⟨9, [(4, .bool ((x2 &&& ~~~x1) == (BitVec.ofInt 16 0)))], [], [], 0⟩ (True) Tryd_mixed (by kernel_rfl) trivial ?_
  refine thenQ_normal ?_
  have hret := Option.some.inj h
  subst hret
  refine AWp.le (Le.mk (s := ⟨9, [(4, .bool ((x2 &&& ~~~x1) == (BitVec.ofInt 16 0)))], [], [], 0⟩) (s' := ⟨9, [(4, .bool ((x2 &&& ~~~x1) == (BitVec.ofInt 16 0)))], [], [], 0⟩) rfl rfl ⟨.refl _, trivial⟩ trivial) ?_
  refine AWp.ret ?_
  exact bodyQ_ret _ rfl ⟨rfl, rfl⟩ rfl
def f54 (x1 : BitVec 16) (x2 : BitVec 16) : Option (Bool × BitVec 16) :=
  (f55 x2 x1).bind fun (r3 : Bool) =>
  some (r3, x2)
set_option maxRecDepth 100000 in
theorem f54_ok  (x1 : BitVec 16) (x2 : BitVec 16) (r : Bool × BitVec 16) (h : f54 x1 x2 = some r)  : Spec1 Tryd.prog 54 [] [2000] [(2000, .cells 28 [.b16 x2])] [.b16 x1, .ptr 2000 0] (.bool r.1) [(2000, .cells 28 [.b16 r.2])] := by
  unfold f54 at h
  refine Spec1.body 0 _ _ Tryd.func54 rfl Tryd.ntmps54 rfl rfl ?_
  refine AWp.seq ?_
  refine AWp.regC [] [] [0, 1] [2000] ⟨7, [(0, .b16 x1), (1, .ptr 2000 0)], [(2000, .cells 28 [.b16 x2])], [2000], 0⟩ (True) Tryd_mixed (by kernel_rfl) trivial ?_
  refine thenQ_normal ?_
  refine AWp.seq ?_
  obtain ⟨r3, hr3, h⟩ := bind_ok h
  refine AWp.regC [] [(2, ⟨[.b16 x2, .b16 x1], [], [], [], .bool r3, [], [], []⟩)] [3] [2000] ⟨7, [(3, .bool r3)], [(2000, .cells 28 [.b16 x2])], [2000], 0⟩ ((callP Tryd.prog true 55 [] [] [] [] [] [.b16 x2, .b16 x1] [.b16 x2, .b16 x1] (.bool r3) []) ∧ True) Tryd_mixed (by kernel_rfl) ⟨⟨fun _ => (f55_ok x2 x1 r3 hr3), fun _ => ⟨.refl _, .refl _, trivial⟩, .inl rfl⟩, trivial⟩ ?_
  refine thenQ_normal ?_
  have hret := Option.some.inj h
  subst hret
  refine AWp.le (Le.mk (s := ⟨7, [(3, .bool r3)], [(2000, .cells 28 [.b16 x2])], [2000], 0⟩) (s' := ⟨7, [(3, .bool r3)], [(2000, .cells 28 [.b16 x2])], [2000], 0⟩) rfl rfl ⟨.refl _, trivial⟩ ⟨⟨_, rfl, .refl _⟩, trivial⟩) ?_
  refine AWp.ret ?_
  exact bodyQ_ret _ rfl ⟨rfl, rfl⟩ rfl
def f73_L0 (x1 : List (BitVec 16)) (K1 : (BitVec 16) → Option (Int × BitVec 16)) : Nat → (Nat × BitVec 16) → Option (Int × BitVec 16)
  | 0, _ => none
  | k + 1, (n3, w4) =>
    if (decide (((n3 : Nat) : Int) < (((x1).length : Nat) : Int))) then (
    (f54 (x1.getD n3 0#16) w4).bind fun (r5 : Bool × BitVec 16) =>
    chk (((n3 : Nat) : Int) < (((x1).length : Nat) : Int)) <|
    if r5.1 then (
    some (((n3 : Nat) : Int), r5.2)
    ) else (
    chk ((((n3 : Nat) : Int) + (1 : Int)) ≤ 9223372036854775807) <|
    (f73_L0 x1 K1 k) ((n3 + 1), r5.2)
    )
    ) else (
    K1 w4
    )
def f73 (x1 : List (BitVec 16)) (x2 : BitVec 16) : Option (Int × BitVec 16) :=
  jn (fun (w6 : BitVec 16) =>
  some ((-1 : Int), w6)
  ) fun (K1 : (BitVec 16) → Option (Int × BitVec 16)) =>
  f73_L0 x1 K1 FUEL (0, x2)
set_option maxRecDepth 100000 in
theorem f73_ok  (x1 : List (BitVec 16)) (x2 : BitVec 16) (r : Int × BitVec 16) (h : f73 x1 x2 = some r)  : Spec1 Tryd.prog 73 [] [2000] [(2000, .cells 28 [.b16 x2])] [vL 1 eW 0#16 x1, .fn (.func 54) [.ptr 2000 0]] (.int .i64 r.1) [(2000, .cells 28 [.b16 r.2])] := by
  unfold f73 at h
  refine Spec1.body 0 _ _ Tryd.func73 rfl Tryd.ntmps73 rfl rfl ?_
  refine AWp.seq ?_
  refine AWp.regC [] [] [0, 1] [2000] ⟨19, [(0, vL 1 eW 0#16 x1), (1, .fn (.func 54) [.ptr 2000 0])], [(2000, .cells 28 [.b16 x2])], [2000], 0⟩ (True) Tryd_mixed (by kernel_rfl) trivial ?_
  refine thenQ_normal ?_
  obtain ⟨K1, hK1, h⟩ := jn_some h
  refine AWp.join (α := BitVec 16) (fun (w6 : BitVec 16) => ⟨19, [], [(2000, .cells 28 [.b16 w6])], [2000], 0⟩) (fun x => K1 x = some r) ?_ ?_
  ·
    refine AWp.seq ?_
    refine AWp.regC [] [] [0, 1, 7, 8] [2000] ⟨19, [(0, vL 1 eW 0#16 x1), (1, .fn (.func 54) [.ptr 2000 0]), (7, .int .i64 (((x1).length : Nat) : Int)), (8, .int .i64 (0 : Int))], [(2000, .cells 28 [.b16 x2])], [2000], 0⟩ (True) Tryd_mixed (by kernel_rfl) trivial ?_
    refine thenQ_normal ?_
    refine AWp.block ?_
    refine AWp.loopL (α := Nat × (Nat × BitVec 16)) (fun x => match x with | (_, n3, w4) => ⟨19, [(0, vL 1 eW 0#16 x1), (1, .fn (.func 54) [.ptr 2000 0]), (7, .int .i64 (((x1).length : Nat) : Int)), (8, .int .i64 ((n3 : Nat) : Int))], [(2000, .cells 28 [.b16 w4])], [2000], 0⟩) (fun x => f73_L0 x1 K1 x.1 x.2 = some r) (fun x => x.1) (FUEL, 0, x2) (Le.mk (s := ⟨19, [(0, vL 1 eW 0#16 x1), (1, .fn (.func 54) [.ptr 2000 0]), (7, .int .i64 (((x1).length : Nat) : Int)), (8, .int .i64 (0 : Int))], [(2000, .cells 28 [.b16 x2])], [2000], 0⟩) (s' := ⟨19, [(0, vL 1 eW 0#16 x1), (1, .fn (.func 54) [.ptr 2000 0]), (7, .int .i64 (((x1).length : Nat) : Int)), (8, .int .i64 (0 : Int))], [(2000, .cells 28 [.b16 x2])], [2000], 0⟩) rfl rfl ⟨.refl _, .refl _, .refl _, .refl _, trivial⟩ ⟨⟨_, rfl, .refl _⟩, trivial⟩) h ?_
    rintro ⟨k0, n3, w4⟩ h
    cases k0 with
    | zero => exact nomatch (show (none : Option (Int × BitVec 16)) = some r from h)
    | succ k0 =>
    obtain ⟨C0, hC0⟩ : ∃ C, C = f73_L0 x1 K1 k0 := ⟨_, rfl⟩
    replace h := (f73_L0.eq_2 ..).symm.trans h
    try rw [← hC0] at h
    refine AWp.seq ?_
    refine AWp.regC [] [] [0, 1, 7, 8, 9] [2000] ⟨19, [(0, vL 1 eW 0#16 x1), (1, .fn (.func 54) [.ptr 2000 0]), (7, .int .i64 (((x1).length : Nat) : Int)), (8, .int .i64 ((n3 : Nat) : Int)), (9, .bool (decide (((n3 : Nat) : Int) < (((x1).length : Nat) : Int))))], [(2000, .cells 28 [.b16 w4])], [2000], 0⟩ (True) Tryd_mixed (by kernel_rfl) trivial ?_
    refine thenQ_normal ?_
    refine AWp.seq ?_
    refine AWp.cond (b := (decide (((n3 : Nat) : Int) < (((x1).length : Nat) : Int)))) (by kernel_rfl) (fun hc1 => ?_) (fun hc1 => ?_)
    ·
      replace h := ite_tb hc1 h
      refine AWp.skip ?_
      refine thenQ_normal ?_
      refine AWp.seq ?_
      refine AWp.block ?_
      refine AWp.seq ?_
      refine AWp.regC [] [] [0, 1, 5, 7, 8] [2000] ⟨19, [(0, vL 1 eW 0#16 x1), (1, .fn (.func 54) [.ptr 2000 0]), (5, .int .i64 ((n3 : Nat) : Int)), (7, .int .i64 (((x1).length : Nat) : Int)), (8, .int .i64 ((n3 : Nat) : Int))], [(2000, .cells 28 [.b16 w4])], [2000], 0⟩ (True) Tryd_mixed (by kernel_rfl) trivial ?_
      refine thenQ_normal ?_
      refine AWp.seq ?_
      obtain ⟨r5, hr5, h⟩ := bind_ok h
      obtain ⟨ob0p, h⟩ := chk_some h
      have ob0 : 0 ≤ ((n3 : Nat) : Int) ∧ ((n3 : Nat) : Int) < (((x1).length : Nat) : Int) := ⟨by omega, ob0p⟩
      refine AWp.regC [] [(5, ⟨[.b16 (x1.getD n3 0#16), .ptr 2000 0], [2000], [2000], [(2000, .cells 28 [.b16 r5.2])], .bool r5.1, [], [], []⟩)] [0, 1, 5, 7, 8, 16] [2000] ⟨19, [(0, vL 1 eW 0#16 x1), (1, .fn (.func 54) [.ptr 2000 0]), (5, .int .i64 ((n3 : Nat) : Int)), (7, .int .i64 (((x1).length : Nat) : Int)), (8, .int .i64 ((n3 : Nat) : Int)), (16, .bool r5.1)], [(2000, .cells 28 [.b16 r5.2])], [2000], 0⟩ ((0 ≤ ((n3 : Nat) : Int) ∧ ((n3 : Nat) : Int) < (((x1).length : Nat) : Int)) ∧ (callP Tryd.prog true 54 [] [2000] [(2000, .cells 28 [.b16 w4])] [] [] [.b16 (x1.getD n3 0#16), .ptr 2000 0] [.b16 (x1.getD n3 0#16), .ptr 2000 0] (.bool r5.1) [(2000, .cells 28 [.b16 r5.2])]) ∧ True) Tryd_mixed (by kernel_rfl) ⟨ob0, ⟨fun _ => (f54_ok (x1.getD n3 0#16) w4 r5 hr5), fun _ => ⟨.refl _, .refl _, trivial⟩, .inl rfl⟩, trivial⟩ ?_
      refine thenQ_normal ?_
      refine AWp.cond (b := r5.1) (by kernel_rfl) (fun hc2 => ?_) (fun hc2 => ?_)
      ·
        replace h := ite_tb hc2 h
        refine AWp.seq ?_
        refine AWp.regC [] [] [4] [2000] ⟨19, [(4, .int .i64 ((n3 : Nat) : Int))], [(2000, .cells 28 [.b16 r5.2])], [2000], 0⟩ (True) Tryd_mixed (by kernel_rfl) trivial ?_
        refine thenQ_normal ?_
        have hret := Option.some.inj h
        subst hret
        refine AWp.le (Le.mk (s := ⟨19, [(4, .int .i64 ((n3 : Nat) : Int))], [(2000, .cells 28 [.b16 r5.2])], [2000], 0⟩) (s' := ⟨19, [(4, .int .i64 ((n3 : Nat) : Int))], [(2000, .cells 28 [.b16 r5.2])], [2000], 0⟩) rfl rfl ⟨.refl _, trivial⟩ ⟨⟨_, rfl, .refl _⟩, trivial⟩) ?_
        refine AWp.ret ?_
        refine blockQ_ret ?_
        refine thenQ_ret ?_
        refine thenQ_ret ?_
        refine blockQ_ret ?_
        refine joinQ_ret ?_
        exact bodyQ_ret _ rfl ⟨rfl, rfl⟩ rfl
      ·
        replace h := ite_fb hc2 h
        refine AWp.skip ?_
        refine blockQ_normal ?_
        refine thenQ_normal ?_
        obtain ⟨ob1p, h⟩ := chk_some h
        have ob1 : -9223372036854775808 ≤ (((n3 : Nat) : Int) + (1 : Int)) ∧ (((n3 : Nat) : Int) + (1 : Int)) ≤ 9223372036854775807 := ⟨by omega, ob1p⟩
        refine AWp.regC [] [] [0, 1, 7, 8] [2000] ⟨19, [(0, vL 1 eW 0#16 x1), (1, .fn (.func 54) [.ptr 2000 0]), (7, .int .i64 (((x1).length : Nat) : Int)), (8, .int .i64 (((n3 + 1) : Nat) : Int))], [(2000, .cells 28 [.b16 r5.2])], [2000], 0⟩ ((-9223372036854775808 ≤ (((n3 : Nat) : Int) + (1 : Int)) ∧ (((n3 : Nat) : Int) + (1 : Int)) ≤ 9223372036854775807) ∧ True) Tryd_mixed (by kernel_rfl) ⟨ob1, trivial⟩ ?_
        rw [hC0] at h
        exact loopQ_normal (_, (n3 + 1), r5.2) (Le.mk (s := ⟨19, [(0, vL 1 eW 0#16 x1), (1, .fn (.func 54) [.ptr 2000 0]), (7, .int .i64 (((x1).length : Nat) : Int)), (8, .int .i64 (((n3 + 1) : Nat) : Int))], [(2000, .cells 28 [.b16 r5.2])], [2000], 0⟩) (s' := ⟨19, [(0, vL 1 eW 0#16 x1), (1, .fn (.func 54) [.ptr 2000 0]), (7, .int .i64 (((x1).length : Nat) : Int)), (8, .int .i64 (((n3 + 1) : Nat) : Int))], [(2000, .cells 28 [.b16 r5.2])], [2000], 0⟩) rfl rfl ⟨.refl _, .refl _, .refl _, .refl _, trivial⟩ ⟨⟨_, rfl, .refl _⟩, trivial⟩) h (Nat.lt_succ_self _)
    ·
      replace h := ite_fb hc1 h
      refine AWp.exit ?_
      refine thenQ_exit ?_
      refine thenQ_exit ?_
      refine blockQ_same ?_
      exact joinQ_normal (w4) (Le.mk (s := ⟨19, [(0, vL 1 eW 0#16 x1), (1, .fn (.func 54) [.ptr 2000 0]), (7, .int .i64 (((x1).length : Nat) : Int)), (8, .int .i64 ((n3 : Nat) : Int)), (9, .bool (decide (((n3 : Nat) : Int) < (((x1).length : Nat) : Int))))], [(2000, .cells 28 [.b16 w4])], [2000], 0⟩) (s' := ⟨19, [], [(2000, .cells 28 [.b16 w4])], [2000], 0⟩) rfl rfl trivial ⟨⟨_, rfl, .refl _⟩, trivial⟩) h
  ·
    rintro w6 h
    replace h := (congrFun hK1 _).symm.trans h
    refine AWp.seq ?_
    refine AWp.regC [] [] [4] [2000] ⟨19, [(4, .int .i64 (-1 : Int))], [(2000, .cells 28 [.b16 w6])], [2000], 0⟩ (True) Tryd_mixed (by kernel_rfl) trivial ?_
    refine thenQ_normal ?_
    have hret := Option.some.inj h
    subst hret
    refine AWp.le (Le.mk (s := ⟨19, [(4, .int .i64 (-1 : Int))], [(2000, .cells 28 [.b16 w6])], [2000], 0⟩) (s' := ⟨19, [(4, .int .i64 (-1 : Int))], [(2000, .cells 28 [.b16 w6])], [2000], 0⟩) rfl rfl ⟨.refl _, trivial⟩ ⟨⟨_, rfl, .refl _⟩, trivial⟩) ?_
    refine AWp.ret ?_
    exact bodyQ_ret _ rfl ⟨rfl, rfl⟩ rfl
def f53 (x1 : List (BitVec 16)) (x2 : BitVec 16) : Option (Bool × BitVec 16) :=
  (f73 x1 x2).bind fun (r3 : Int × BitVec 16) =>
  some ((decide (r3.1 ≥ (0 : Int))), r3.2)
set_option maxRecDepth 100000 in
theorem f53_ok  (x1 : List (BitVec 16)) (x2 : BitVec 16) (r : Bool × BitVec 16) (h : f53 x1 x2 = some r)  : Spec1 Tryd.prog 53 [] [2000] [(2000, .cells 28 [.b16 x2])] [vL 1 eW 0#16 x1, .fn (.func 54) [.ptr 2000 0]] (.bool r.1) [(2000, .cells 28 [.b16 r.2])] := by
  unfold f53 at h
  refine Spec1.body 0 _ _ Tryd.func53 rfl Tryd.ntmps53 rfl rfl ?_
  refine AWp.seq ?_
  refine AWp.regC [] [] [0, 1] [2000] ⟨9, [(0, vL 1 eW 0#16 x1), (1, .fn (.func 54) [.ptr 2000 0])], [(2000, .cells 28 [.b16 x2])], [2000], 0⟩ (True) Tryd_mixed (by kernel_rfl) trivial ?_
  refine thenQ_normal ?_
  refine AWp.seq ?_
  obtain ⟨r3, hr3, h⟩ := bind_ok h
  refine AWp.regC [] [(2, ⟨[vL 1 eW 0#16 x1, .fn (.func 54) [.ptr 2000 0]], [2000], [2000], [(2000, .cells 28 [.b16 r3.2])], .int .i64 r3.1, [], [], []⟩)] [4] [2000] ⟨9, [(4, .bool (decide (r3.1 ≥ (0 : Int))))], [(2000, .cells 28 [.b16 r3.2])], [2000], 0⟩ ((callP Tryd.prog true 73 [] [2000] [(2000, .cells 28 [.b16 x2])] [] [] [vL 1 eW 0#16 x1, .fn (.func 54) [.ptr 2000 0]] [vL 1 eW 0#16 x1, .fn (.func 54) [.ptr 2000 0]] (.int .i64 r3.1) [(2000, .cells 28 [.b16 r3.2])]) ∧ True) Tryd_mixed (by kernel_rfl) ⟨⟨fun _ => (f73_ok x1 x2 r3 hr3), fun _ => ⟨.refl _, .refl _, trivial⟩, .inl rfl⟩, trivial⟩ ?_
  refine thenQ_normal ?_
  have hret := Option.some.inj h
  subst hret
  refine AWp.le (Le.mk (s := ⟨9, [(4, .bool (decide (r3.1 ≥ (0 : Int))))], [(2000, .cells 28 [.b16 r3.2])], [2000], 0⟩) (s' := ⟨9, [(4, .bool (decide (r3.1 ≥ (0 : Int))))], [(2000, .cells 28 [.b16 r3.2])], [2000], 0⟩) rfl rfl ⟨.refl _, trivial⟩ ⟨⟨_, rfl, .refl _⟩, trivial⟩) ?_
  refine AWp.ret ?_
  exact bodyQ_ret _ rfl ⟨rfl, rfl⟩ rfl
def f27 (x1 : List (BitVec 16)) (x2 : BitVec 16) : Option Bool :=
  (f53 x1 x2).bind fun (r3 : Bool × BitVec 16) =>
  some r3.1
set_option maxRecDepth 100000 in
theorem f27_ok  (x1 : List (BitVec 16)) (x2 : BitVec 16) (r : Bool) (h : f27 x1 x2 = some r)  : Spec1 Tryd.prog 27 [] [] [] [vL 1 eW 0#16 x1, .b16 x2] (.bool r) [] := by
  unfold f27 at h
  refine Spec1.body 0 _ _ Tryd.func27 rfl Tryd.ntmps27 rfl rfl ?_
  refine AWp.seq ?_
  refine AWp.regC [] [] [0, 3] [3] ⟨8, [(0, vL 1 eW 0#16 x1), (3, .ptr 3 0)], [(3, .cells 28 [.b16 x2])], [], 0⟩ (True) Tryd_mixed (by kernel_rfl) trivial ?_
  refine thenQ_normal ?_
  refine AWp.seq ?_
  obtain ⟨r3, hr3, h⟩ := bind_ok h
  refine AWp.regC [] [(2, ⟨[vL 1 eW 0#16 x1, .fn (.func 54) [.ptr 3 0]], [3], [3], [(3, .cells 28 [.b16 r3.2])], .bool r3.1, [], [], []⟩)] [4] [] ⟨8, [(4, .bool r3.1)], [], [], 0⟩ ((callP Tryd.prog true 53 [] [3] [(3, .cells 28 [.b16 x2])] [] [] [vL 1 eW 0#16 x1, .fn (.func 54) [.ptr 3 0]] [vL 1 eW 0#16 x1, .fn (.func 54) [.ptr 3 0]] (.bool r3.1) [(3, .cells 28 [.b16 r3.2])]) ∧ True) Tryd_mixed (by kernel_rfl) ⟨⟨fun _ => (Spec1.ren (swapN 2000 3) (swapN_inv 2000 3) rfl (f53_ok x1 x2 r3 hr3)), fun _ => ⟨.refl _, .refl _, trivial⟩, .inl rfl⟩, trivial⟩ ?_
  refine thenQ_normal ?_
  have hret := Option.some.inj h
  subst hret
  refine AWp.le (Le.mk (s := ⟨8, [(4, .bool r3.1)], [], [], 0⟩) (s' := ⟨8, [(4, .bool r3.1)], [], [], 0⟩) rfl rfl ⟨.refl _, trivial⟩ trivial) ?_
  refine AWp.ret ?_
  exact bodyQ_ret _ rfl ⟨rfl, rfl⟩ rfl
def f11_L0 (x1 : List (BitVec 16)) (K1 : Unit → Option Int) : Nat → Nat → Option Int
  | 0, _ => none
  | k + 1, n2 =>
    if (decide (((n2 : Nat) : Int) < (((x1).length : Nat) : Int))) then (
    chk (((n2 : Nat) : Int) < (((x1).length : Nat) : Int)) <|
    if (!(((x1.getD n2 0#16) &&& (BitVec.ofInt 16 61440)) == (BitVec.ofInt 16 0))) then (
    some (7 : Int)
    ) else (
    optc ((decide (((n2 : Nat) : Int) > (0 : Int))) == true) (f38 (x1.getD (((((n2 : Nat) : Int) - (1 : Int))).toNat) 0#16) (x1.getD n2 0#16)) fun (r3 : Int) =>
    chk (((decide (((n2 : Nat) : Int) > (0 : Int))) == true) = true → -9223372036854775808 ≤ (((n2 : Nat) : Int) - (1 : Int)) ∧ (((n2 : Nat) : Int) - (1 : Int)) ≤ 9223372036854775807) <|
    chk (((decide (((n2 : Nat) : Int) > (0 : Int))) == true) = true → 0 ≤ (((n2 : Nat) : Int) - (1 : Int)) ∧ (((n2 : Nat) : Int) - (1 : Int)) < (((x1).length : Nat) : Int)) <|
    if ((decide (((n2 : Nat) : Int) > (0 : Int))) && (decide (r3 ≥ (0 : Int)))) then (
    some (1 : Int)
    ) else (
    chk ((((n2 : Nat) : Int) + (1 : Int)) ≤ 9223372036854775807) <|
    (f11_L0 x1 K1 k) (n2 + 1)
    )
    )
    ) else (
    K1 ()
    )
def f11_L1 (x1 : List (BitVec 16)) (K2 : Unit → Option Int) : Nat → Nat → Option Int
  | 0, _ => none
  | k + 1, n4 =>
    if (decide (((n4 : Nat) : Int) < (((x1).length : Nat) : Int))) then (
    chk (((n4 : Nat) : Int) < (((x1).length : Nat) : Int)) <|
    (f27 (x1.take n4) (x1.getD n4 0#16)).bind fun (r5 : Bool) =>
    chk (((n4 : Nat) : Int) ≤ (((x1).length : Nat) : Int)) <|
    if r5 then (
    some (1 : Int)
    ) else (
    chk ((((n4 : Nat) : Int) + (1 : Int)) ≤ 9223372036854775807) <|
    (f11_L1 x1 K2 k) (n4 + 1)
    )
    ) else (
    K2 ()
    )
def f11 (x1 : List (BitVec 16)) : Option Int :=
  if (decide ((((x1).length : Nat) : Int) > (400 : Int))) then (
  some (3 : Int)
  ) else (
  jn (fun (_ : Unit) =>
  jn (fun (_ : Unit) =>
  some (0 : Int)
  ) fun (K2 : Unit → Option Int) =>
  f11_L1 x1 K2 FUEL 0
  ) fun (K1 : Unit → Option Int) =>
  f11_L0 x1 K1 FUEL 0
  )
set_option maxRecDepth 100000 in
theorem f11_ok  (x1 : List (BitVec 16)) (r : Int) (h : f11 x1 = some r)  : Spec1 Tryd.prog 11 [] [] [] [vL 1 eW 0#16 x1] (.int .i64 r) [] := by
  unfold f11 at h
  refine Spec1.body 0 _ _ Tryd.func11 rfl Tryd.ntmps11 rfl rfl ?_
  refine AWp.seq ?_
  refine AWp.regC [] [] [0] [] ⟨48, [(0, vL 1 eW 0#16 x1)], [], [], 0⟩ (True) Tryd_mixed (by kernel_rfl) trivial ?_
  refine thenQ_normal ?_
  refine AWp.seq ?_
  refine AWp.seq ?_
  refine AWp.regC [] [] [0, 9] [] ⟨48, [(0, vL 1 eW 0#16 x1), (9, .bool (decide ((((x1).length : Nat) : Int) > (400 : Int))))], [], [], 0⟩ (True) Tryd_mixed (by kernel_rfl) trivial ?_
  refine thenQ_normal ?_
  refine AWp.cond (b := (decide ((((x1).length : Nat) : Int) > (400 : Int)))) (by kernel_rfl) (fun hc1 => ?_) (fun hc1 => ?_)
  ·
    replace h := ite_tb hc1 h
    refine AWp.seq ?_
    refine AWp.regC [] [] [2] [] ⟨48, [(2, .int .i64 (3 : Int))], [], [], 0⟩ (True) Tryd_mixed (by kernel_rfl) trivial ?_
    refine thenQ_normal ?_
    have hret := Option.some.inj h
    subst hret
    refine AWp.le (Le.mk (s := ⟨48, [(2, .int .i64 (3 : Int))], [], [], 0⟩) (s' := ⟨48, [(2, .int .i64 (3 : Int))], [], [], 0⟩) rfl rfl ⟨.refl _, trivial⟩ trivial) ?_
    refine AWp.ret ?_
    refine thenQ_ret ?_
    exact bodyQ_ret _ rfl ⟨rfl, rfl⟩ rfl
  ·
    replace h := ite_fb hc1 h
    refine AWp.skip ?_
    refine thenQ_normal ?_
    obtain ⟨K1, hK1, h⟩ := jn_some h
    refine AWp.join (α := Unit) (fun (x : Unit) => match x with | () => ⟨48, [(0, vL 1 eW 0#16 x1)], [], [], 0⟩) (fun x => K1 x = some r) ?_ ?_
    ·
      refine AWp.seq ?_
      refine AWp.regC [] [] [0, 10, 11, 12] [] ⟨48, [(0, vL 1 eW 0#16 x1), (10, vL 1 eW 0#16 x1), (11, .int .i64 (((x1).length : Nat) : Int)), (12, .int .i64 (0 : Int))], [], [], 0⟩ (True) Tryd_mixed (by kernel_rfl) trivial ?_
      refine thenQ_normal ?_
      refine AWp.block ?_
      refine AWp.loopL (α := Nat × Nat) (fun x => match x with | (_, n2) => ⟨48, [(0, vL 1 eW 0#16 x1), (10, vL 1 eW 0#16 x1), (11, .int .i64 (((x1).length : Nat) : Int)), (12, .int .i64 ((n2 : Nat) : Int))], [], [], 0⟩) (fun x => f11_L0 x1 K1 x.1 x.2 = some r) (fun x => x.1) (FUEL, 0) (Le.mk (s := ⟨48, [(0, vL 1 eW 0#16 x1), (10, vL 1 eW 0#16 x1), (11, .int .i64 (((x1).length : Nat) : Int)), (12, .int .i64 (0 : Int))], [], [], 0⟩) (s' := ⟨48, [(0, vL 1 eW 0#16 x1), (10, vL 1 eW 0#16 x1), (11, .int .i64 (((x1).length : Nat) : Int)), (12, .int .i64 (0 : Int))], [], [], 0⟩) rfl rfl ⟨.refl _, .refl _, .refl _, .refl _, trivial⟩ trivial) h ?_
      rintro ⟨k0, n2⟩ h
      cases k0 with
      | zero => exact nomatch (show (none : Option Int) = some r from h)
      | succ k0 =>
      obtain ⟨C0, hC0⟩ : ∃ C, C = f11_L0 x1 K1 k0 := ⟨_, rfl⟩
      replace h := (f11_L0.eq_2 ..).symm.trans h
      try rw [← hC0] at h
      refine AWp.seq ?_
      refine AWp.regC [] [] [0, 10, 11, 12, 13] [] ⟨48, [(0, vL 1 eW 0#16 x1), (10, vL 1 eW 0#16 x1), (11, .int .i64 (((x1).length : Nat) : Int)), (12, .int .i64 ((n2 : Nat) : Int)), (13, .bool (decide (((n2 : Nat) : Int) < (((x1).length : Nat) : Int))))], [], [], 0⟩ (True) Tryd_mixed (by kernel_rfl) trivial ?_
      refine thenQ_normal ?_
      refine AWp.seq ?_
      refine AWp.cond (b := (decide (((n2 : Nat) : Int) < (((x1).length : Nat) : Int)))) (by kernel_rfl) (fun hc2 => ?_) (fun hc2 => ?_)
      ·
        replace h := ite_tb hc2 h
        refine AWp.skip ?_
        refine thenQ_normal ?_
        refine AWp.seq ?_
        refine AWp.block ?_
        refine AWp.seq ?_
        obtain ⟨ob0p, h⟩ := chk_some h
        have ob0 : 0 ≤ ((n2 : Nat) : Int) ∧ ((n2 : Nat) : Int) < (((x1).length : Nat) : Int) := ⟨by omega, ob0p⟩
        refine AWp.regC [] [] [0, 3, 4, 10, 11, 12] [] ⟨48, [(0, vL 1 eW 0#16 x1), (3, .int .i64 ((n2 : Nat) : Int)), (4, .b16 (x1.getD n2 0#16)), (10, vL 1 eW 0#16 x1), (11, .int .i64 (((x1).length : Nat) : Int)), (12, .int .i64 ((n2 : Nat) : Int))], [], [], 0⟩ ((0 ≤ ((n2 : Nat) : Int) ∧ ((n2 : Nat) : Int) < (((x1).length : Nat) : Int)) ∧ True) Tryd_mixed (by kernel_rfl) ⟨ob0, trivial⟩ ?_
        refine thenQ_normal ?_
        refine AWp.block ?_
        refine AWp.seq ?_
        refine AWp.regC [] [] [0, 3, 4, 10, 11, 12, 17] [] ⟨48, [(0, vL 1 eW 0#16 x1), (3, .int .i64 ((n2 : Nat) : Int)), (4, .b16 (x1.getD n2 0#16)), (10, vL 1 eW 0#16 x1), (11, .int .i64 (((x1).length : Nat) : Int)), (12, .int .i64 ((n2 : Nat) : Int)), (17, .bool (!(((x1.getD n2 0#16) &&& (BitVec.ofInt 16 61440)) == (BitVec.ofInt 16 0))))], [], [], 0⟩ (True) Tryd_mixed (by kernel_rfl) trivial ?_
        refine thenQ_normal ?_
        refine AWp.cond (b := (!(((x1.getD n2 0#16) &&& (BitVec.ofInt 16 61440)) == (BitVec.ofInt 16 0)))) (by kernel_rfl) (fun hc3 => ?_) (fun hc3 => ?_)
        ·
          replace h := ite_tb hc3 h
          refine AWp.seq ?_
          refine AWp.regC [] [] [2] [] ⟨48, [(2, .int .i64 (7 : Int))], [], [], 0⟩ (True) Tryd_mixed (by kernel_rfl) trivial ?_
          refine thenQ_normal ?_
          have hret := Option.some.inj h
          subst hret
          refine AWp.le (Le.mk (s := ⟨48, [(2, .int .i64 (7 : Int))], [], [], 0⟩) (s' := ⟨48, [(2, .int .i64 (7 : Int))], [], [], 0⟩) rfl rfl ⟨.refl _, trivial⟩ trivial) ?_
          refine AWp.ret ?_
          refine blockQ_ret ?_
          refine blockQ_ret ?_
          refine thenQ_ret ?_
          refine thenQ_ret ?_
          refine blockQ_ret ?_
          refine joinQ_ret ?_
          exact bodyQ_ret _ rfl ⟨rfl, rfl⟩ rfl
        ·
          replace h := ite_fb hc3 h
          refine AWp.seq ?_
          obtain ⟨r3, hr3, h⟩ := optc_some h
          obtain ⟨ob1, h⟩ := chk_some h
          have ob2 : ((decide (((n2 : Nat) : Int) > (0 : Int))) == true) = true → ((decide (((n2 : Nat) : Int) > (0 : Int))) == true) = true := fun h => h
          obtain ⟨ob3, h⟩ := chk_some h
          have ob4 : ((decide (((n2 : Nat) : Int) > (0 : Int))) == true) = true → ((decide (((n2 : Nat) : Int) > (0 : Int))) == true) = true := fun h => h
          have ob5 : ((decide (((n2 : Nat) : Int) > (0 : Int))) == true) = true → ((decide (((n2 : Nat) : Int) > (0 : Int))) == true) = true := fun h => h
          have ob6 : ((decide (((n2 : Nat) : Int) > (0 : Int))) == true) = true → ((decide (((n2 : Nat) : Int) > (0 : Int))) == true) = true := fun h => h
          have ob7 : ((decide (((n2 : Nat) : Int) > (0 : Int))) == true) = true → ((decide (((n2 : Nat) : Int) > (0 : Int))) == true) = true := fun h => h
          have ob8 : ((decide (((n2 : Nat) : Int) > (0 : Int))) == true) = true → ((decide (((n2 : Nat) : Int) > (0 : Int))) == true) = true := fun h => h
          have ob9 : ((decide (((n2 : Nat) : Int) > (0 : Int))) == true) = true → ((decide (((n2 : Nat) : Int) > (0 : Int))) == true) = true := fun h => h
          have ob10 : true = true → (decide (((n2 : Nat) : Int) > (0 : Int))) = true → ((decide (((n2 : Nat) : Int) > (0 : Int))) == true) = true := fun _ h => beq_iff_eq.2 h
          refine AWp.regC [] [(9, ⟨[.b16 (x1.getD (((((n2 : Nat) : Int) - (1 : Int))).toNat) 0#16), .b16 (x1.getD n2 0#16)], [], [], [], .int .i64 r3, [], [], []⟩)] [0, 10, 11, 12, 21] [] ⟨48, [(0, vL 1 eW 0#16 x1), (10, vL 1 eW 0#16 x1), (11, .int .i64 (((x1).length : Nat) : Int)), (12, .int .i64 ((n2 : Nat) : Int)), (21, .bool ((decide (((n2 : Nat) : Int) > (0 : Int))) && (decide (r3 ≥ (0 : Int)))))], [], [], 0⟩ (((((decide (((n2 : Nat) : Int) > (0 : Int))) == true) = true → -9223372036854775808 ≤ (((n2 : Nat) : Int) - (1 : Int)) ∧ (((n2 : Nat) : Int) - (1 : Int)) ≤ 9223372036854775807) ∧ (((decide (((n2 : Nat) : Int) > (0 : Int))) == true) = true → ((decide (((n2 : Nat) : Int) > (0 : Int))) == true) = true) ∧ True) ∧ ((((decide (((n2 : Nat) : Int) > (0 : Int))) == true) = true → 0 ≤ (((n2 : Nat) : Int) - (1 : Int)) ∧ (((n2 : Nat) : Int) - (1 : Int)) < (((x1).length : Nat) : Int)) ∧ (((decide (((n2 : Nat) : Int) > (0 : Int))) == true) = true → ((decide (((n2 : Nat) : Int) > (0 : Int))) == true) = true) ∧ (((decide (((n2 : Nat) : Int) > (0 : Int))) == true) = true → ((decide (((n2 : Nat) : Int) > (0 : Int))) == true) = true) ∧ True) ∧ ((((decide (((n2 : Nat) : Int) > (0 : Int))) == true) = true → ((decide (((n2 : Nat) : Int) > (0 : Int))) == true) = true) ∧ True) ∧ ((callP Tryd.prog ((decide (((n2 : Nat) : Int) > (0 : Int))) == true) 38 [] [] [] [] [] [.b16 (x1.getD (((((n2 : Nat) : Int) - (1 : Int))).toNat) 0#16), .b16 (x1.getD n2 0#16)] [.b16 (x1.getD (((((n2 : Nat) : Int) - (1 : Int))).toNat) 0#16), .b16 (x1.getD n2 0#16)] (.int .i64 r3) []) ∧ (((decide (((n2 : Nat) : Int) > (0 : Int))) == true) = true → ((decide (((n2 : Nat) : Int) > (0 : Int))) == true) = true) ∧ (((decide (((n2 : Nat) : Int) > (0 : Int))) == true) = true → ((decide (((n2 : Nat) : Int) > (0 : Int))) == true) = true) ∧ True) ∧ ((((decide (((n2 : Nat) : Int) > (0 : Int))) == true) = true → ((decide (((n2 : Nat) : Int) > (0 : Int))) == true) = true) ∧ True) ∧ (true = true → (decide (((n2 : Nat) : Int) > (0 : Int))) = true → ((decide (((n2 : Nat) : Int) > (0 : Int))) == true) = true) ∧ True) Tryd_mixed (by kernel_rfl) ⟨⟨ob1, ob2, trivial⟩, ⟨ob3, ob4, ob5, trivial⟩, ⟨ob6, trivial⟩, ⟨⟨fun hc => (f38_ok (x1.getD (((((n2 : Nat) : Int) - (1 : Int))).toNat) 0#16) (x1.getD n2 0#16) r3 (hr3 hc)), fun _ => ⟨.refl _, .refl _, trivial⟩, .inl rfl⟩, ob7, ob8, trivial⟩, ⟨ob9, trivial⟩, ob10, trivial⟩ ?_
          refine thenQ_normal ?_
          refine AWp.cond (b := ((decide (((n2 : Nat) : Int) > (0 : Int))) && (decide (r3 ≥ (0 : Int))))) (by kernel_rfl) (fun hc4 => ?_) (fun hc4 => ?_)
          ·
            replace h := ite_tb hc4 h
            refine AWp.seq ?_
            refine AWp.regC [] [] [2] [] ⟨48, [(2, .int .i64 (1 : Int))], [], [], 0⟩ (True) Tryd_mixed (by kernel_rfl) trivial ?_
            refine thenQ_normal ?_
            have hret := Option.some.inj h
            subst hret
            refine AWp.le (Le.mk (s := ⟨48, [(2, .int .i64 (1 : Int))], [], [], 0⟩) (s' := ⟨48, [(2, .int .i64 (1 : Int))], [], [], 0⟩) rfl rfl ⟨.refl _, trivial⟩ trivial) ?_
            refine AWp.ret ?_
            refine blockQ_ret ?_
            refine blockQ_ret ?_
            refine thenQ_ret ?_
            refine thenQ_ret ?_
            refine blockQ_ret ?_
            refine joinQ_ret ?_
            exact bodyQ_ret _ rfl ⟨rfl, rfl⟩ rfl
          ·
            replace h := ite_fb hc4 h
            refine AWp.skip ?_
            refine blockQ_normal ?_
            refine blockQ_normal ?_
            refine thenQ_normal ?_
            obtain ⟨ob11p, h⟩ := chk_some h
            have ob11 : -9223372036854775808 ≤ (((n2 : Nat) : Int) + (1 : Int)) ∧ (((n2 : Nat) : Int) + (1 : Int)) ≤ 9223372036854775807 := ⟨by omega, ob11p⟩
            refine AWp.regC [] [] [0, 10, 11, 12] [] ⟨48, [(0, vL 1 eW 0#16 x1), (10, vL 1 eW 0#16 x1), (11, .int .i64 (((x1).length : Nat) : Int)), (12, .int .i64 (((n2 + 1) : Nat) : Int))], [], [], 0⟩ ((-9223372036854775808 ≤ (((n2 : Nat) : Int) + (1 : Int)) ∧ (((n2 : Nat) : Int) + (1 : Int)) ≤ 9223372036854775807) ∧ True) Tryd_mixed (by kernel_rfl) ⟨ob11, trivial⟩ ?_
            rw [hC0] at h
            exact loopQ_normal (_, (n2 + 1)) (Le.mk (s := ⟨48, [(0, vL 1 eW 0#16 x1), (10, vL 1 eW 0#16 x1), (11, .int .i64 (((x1).length : Nat) : Int)), (12, .int .i64 (((n2 + 1) : Nat) : Int))], [], [], 0⟩) (s' := ⟨48, [(0, vL 1 eW 0#16 x1), (10, vL 1 eW 0#16 x1), (11, .int .i64 (((x1).length : Nat) : Int)), (12, .int .i64 (((n2 + 1) : Nat) : Int))], [], [], 0⟩) rfl rfl ⟨.refl _, .refl _, .refl _, .refl _, trivial⟩ trivial) h (Nat.lt_succ_self _)
      ·
        replace h := ite_fb hc2 h
        refine AWp.exit ?_
        refine thenQ_exit ?_
        refine thenQ_exit ?_
        refine blockQ_same ?_
        exact joinQ_normal () (Le.mk (s := ⟨48, [(0, vL 1 eW 0#16 x1), (10, vL 1 eW 0#16 x1), (11, .int .i64 (((x1).length : Nat) : Int)), (12, .int .i64 ((n2 : Nat) : Int)), (13, .bool (decide (((n2 : Nat) : Int) < (((x1).length : Nat) : Int))))], [], [], 0⟩) (s' := ⟨48, [(0, vL 1 eW 0#16 x1)], [], [], 0⟩) rfl rfl ⟨.refl _, trivial⟩ trivial) h
    ·
      rintro ⟨⟩ h
      replace h := (congrFun hK1 _).symm.trans h
      obtain ⟨K2, hK2, h⟩ := jn_some h
      refine AWp.join (α := Unit) (fun (x : Unit) => match x with | () => ⟨48, [], [], [], 0⟩) (fun x => K2 x = some r) ?_ ?_
      ·
        refine AWp.seq ?_
        refine AWp.regC [] [] [0, 35, 36, 37] [] ⟨48, [(0, vL 1 eW 0#16 x1), (35, vL 1 eW 0#16 x1), (36, .int .i64 (((x1).length : Nat) : Int)), (37, .int .i64 (0 : Int))], [], [], 0⟩ (True) Tryd_mixed (by kernel_rfl) trivial ?_
        refine thenQ_normal ?_
        refine AWp.block ?_
        refine AWp.loopL (α := Nat × Nat) (fun x => match x with | (_, n4) => ⟨48, [(0, vL 1 eW 0#16 x1), (35, vL 1 eW 0#16 x1), (36, .int .i64 (((x1).length : Nat) : Int)), (37, .int .i64 ((n4 : Nat) : Int))], [], [], 0⟩) (fun x => f11_L1 x1 K2 x.1 x.2 = some r) (fun x => x.1) (FUEL, 0) (Le.mk (s := ⟨48, [(0, vL 1 eW 0#16 x1), (35, vL 1 eW 0#16 x1), (36, .int .i64 (((x1).length : Nat) : Int)), (37, .int .i64 (0 : Int))], [], [], 0⟩) (s' := ⟨48, [(0, vL 1 eW 0#16 x1), (35, vL 1 eW 0#16 x1), (36, .int .i64 (((x1).length : Nat) : Int)), (37, .int .i64 (0 : Int))], [], [], 0⟩) rfl rfl ⟨.refl _, .refl _, .refl _, .refl _, trivial⟩ trivial) h ?_
        rintro ⟨k1, n4⟩ h
        cases k1 with
        | zero => exact nomatch (show (none : Option Int) = some r from h)
        | succ k1 =>
        obtain ⟨C1, hC1⟩ : ∃ C, C = f11_L1 x1 K2 k1 := ⟨_, rfl⟩
        replace h := (f11_L1.eq_2 ..).symm.trans h
        try rw [← hC1] at h
        refine AWp.seq ?_
        refine AWp.regC [] [] [0, 35, 36, 37, 38] [] ⟨48, [(0, vL 1 eW 0#16 x1), (35, vL 1 eW 0#16 x1), (36, .int .i64 (((x1).length : Nat) : Int)), (37, .int .i64 ((n4 : Nat) : Int)), (38, .bool (decide (((n4 : Nat) : Int) < (((x1).length : Nat) : Int))))], [], [], 0⟩ (True) Tryd_mixed (by kernel_rfl) trivial ?_
        refine thenQ_normal ?_
        refine AWp.seq ?_
        refine AWp.cond (b := (decide (((n4 : Nat) : Int) < (((x1).length : Nat) : Int)))) (by kernel_rfl) (fun hc5 => ?_) (fun hc5 => ?_)
        ·
          replace h := ite_tb hc5 h
          refine AWp.skip ?_
          refine thenQ_normal ?_
          refine AWp.seq ?_
          refine AWp.block ?_
          refine AWp.seq ?_
          obtain ⟨ob12p, h⟩ := chk_some h
          have ob12 : 0 ≤ ((n4 : Nat) : Int) ∧ ((n4 : Nat) : Int) < (((x1).length : Nat) : Int) := ⟨by omega, ob12p⟩
          refine AWp.regC [] [] [0, 5, 6, 35, 36, 37] [] ⟨48, [(0, vL 1 eW 0#16 x1), (5, .int .i64 ((n4 : Nat) : Int)), (6, .b16 (x1.getD n4 0#16)), (35, vL 1 eW 0#16 x1), (36, .int .i64 (((x1).length : Nat) : Int)), (37, .int .i64 ((n4 : Nat) : Int))], [], [], 0⟩ ((0 ≤ ((n4 : Nat) : Int) ∧ ((n4 : Nat) : Int) < (((x1).length : Nat) : Int)) ∧ True) Tryd_mixed (by kernel_rfl) ⟨ob12, trivial⟩ ?_
          refine thenQ_normal ?_
          refine AWp.seq ?_
          obtain ⟨r5, hr5, h⟩ := bind_ok h
          obtain ⟨ob13p, h⟩ := chk_some h
          have ob13 : 0 ≤ ((n4 : Nat) : Int) ∧ ((n4 : Nat) : Int) ≤ (((x1).length : Nat) : Int) := ⟨by omega, ob13p⟩
          refine AWp.regC [] [(4, ⟨[vL 1 eW 0#16 (x1.take n4), .b16 (x1.getD n4 0#16)], [], [], [], .bool r5, [], [], []⟩)] [0, 35, 36, 37, 46] [] ⟨48, [(0, vL 1 eW 0#16 x1), (35, vL 1 eW 0#16 x1), (36, .int .i64 (((x1).length : Nat) : Int)), (37, .int .i64 ((n4 : Nat) : Int)), (46, .bool r5)], [], [], 0⟩ ((0 ≤ ((n4 : Nat) : Int) ∧ ((n4 : Nat) : Int) ≤ (((x1).length : Nat) : Int)) ∧ (callP Tryd.prog true 27 [] [] [] [] [] [.arr 1 n4 (encF eW 0#16 x1), .b16 (x1.getD n4 0#16)] [vL 1 eW 0#16 (x1.take n4), .b16 (x1.getD n4 0#16)] (.bool r5) []) ∧ True) Tryd_mixed (by kernel_rfl) ⟨ob13, ⟨fun _ => (f27_ok (x1.take n4) (x1.getD n4 0#16) r5 hr5), fun _ => ⟨(VLe.takeL (by first | omega | (simp only [List.length_append, List.length_cons, List.length_nil, List.length_take, List.length_drop] at *; omega) | (simp; done) | (simp_all; done) | (simp_all; omega) | rfl)), .refl _, trivial⟩, .inl rfl⟩, trivial⟩ ?_
          refine thenQ_normal ?_
          refine AWp.cond (b := r5) (by kernel_rfl) (fun hc6 => ?_) (fun hc6 => ?_)
          ·
            replace h := ite_tb hc6 h
            refine AWp.seq ?_
            refine AWp.regC [] [] [2] [] ⟨48, [(2, .int .i64 (1 : Int))], [], [], 0⟩ (True) Tryd_mixed (by kernel_rfl) trivial ?_
            refine thenQ_normal ?_
            have hret := Option.some.inj h
            subst hret
            refine AWp.le (Le.mk (s := ⟨48, [(2, .int .i64 (1 : Int))], [], [], 0⟩) (s' := ⟨48, [(2, .int .i64 (1 : Int))], [], [], 0⟩) rfl rfl ⟨.refl _, trivial⟩ trivial) ?_
            refine AWp.ret ?_
            refine blockQ_ret ?_
            refine thenQ_ret ?_
            refine thenQ_ret ?_
            refine blockQ_ret ?_
            refine joinQ_ret ?_
            exact bodyQ_ret _ rfl ⟨rfl, rfl⟩ rfl
          ·
            replace h := ite_fb hc6 h
            refine AWp.skip ?_
            refine blockQ_normal ?_
            refine thenQ_normal ?_
            obtain ⟨ob14p, h⟩ := chk_some h
            have ob14 : -9223372036854775808 ≤ (((n4 : Nat) : Int) + (1 : Int)) ∧ (((n4 : Nat) : Int) + (1 : Int)) ≤ 9223372036854775807 := ⟨by omega, ob14p⟩
            refine AWp.regC [] [] [0, 35, 36, 37] [] ⟨48, [(0, vL 1 eW 0#16 x1), (35, vL 1 eW 0#16 x1), (36, .int .i64 (((x1).length : Nat) : Int)), (37, .int .i64 (((n4 + 1) : Nat) : Int))], [], [], 0⟩ ((-9223372036854775808 ≤ (((n4 : Nat) : Int) + (1 : Int)) ∧ (((n4 : Nat) : Int) + (1 : Int)) ≤ 9223372036854775807) ∧ True) Tryd_mixed (by kernel_rfl) ⟨ob14, trivial⟩ ?_
            rw [hC1] at h
            exact loopQ_normal (_, (n4 + 1)) (Le.mk (s := ⟨48, [(0, vL 1 eW 0#16 x1), (35, vL 1 eW 0#16 x1), (36, .int .i64 (((x1).length : Nat) : Int)), (37, .int .i64 (((n4 + 1) : Nat) : Int))], [], [], 0⟩) (s' := ⟨48, [(0, vL 1 eW 0#16 x1), (35, vL 1 eW 0#16 x1), (36, .int .i64 (((x1).length : Nat) : Int)), (37, .int .i64 (((n4 + 1) : Nat) : Int))], [], [], 0⟩) rfl rfl ⟨.refl _, .refl _, .refl _, .refl _, trivial⟩ trivial) h (Nat.lt_succ_self _)
        ·
          replace h := ite_fb hc5 h
          refine AWp.exit ?_
          refine thenQ_exit ?_
          refine thenQ_exit ?_
          refine blockQ_same ?_
          exact joinQ_normal () (Le.mk (s := ⟨48, [(0, vL 1 eW 0#16 x1), (35, vL 1 eW 0#16 x1), (36, .int .i64 (((x1).length : Nat) : Int)), (37, .int .i64 ((n4 : Nat) : Int)), (38, .bool (decide (((n4 : Nat) : Int) < (((x1).length : Nat) : Int))))], [], [], 0⟩) (s' := ⟨48, [], [], [], 0⟩) rfl rfl trivial trivial) h
      ·
        rintro ⟨⟩ h
        replace h := (congrFun hK2 _).symm.trans h
        refine AWp.seq ?_
        refine AWp.regC [] [] [2] [] ⟨48, [(2, .int .i64 (0 : Int))], [], [], 0⟩ (True) Tryd_mixed (by kernel_rfl) trivial ?_
        refine thenQ_normal ?_
        have hret := Option.some.inj h
        subst hret
        refine AWp.le (Le.mk (s := ⟨48, [(2, .int .i64 (0 : Int))], [], [], 0⟩) (s' := ⟨48, [(2, .int .i64 (0 : Int))], [], [], 0⟩) rfl rfl ⟨.refl _, trivial⟩ trivial) ?_
        refine AWp.ret ?_
        exact bodyQ_ret _ rfl ⟨rfl, rfl⟩ rfl
def f48 (x1 : List (BitVec 16)) (x2 : List (BitVec 16)) : Option Int :=
  (f11 x1).bind fun (r3 : Int) =>
  if (r3 != (0 : Int)) then (
  some r3
  ) else (
  (f11 x2).bind fun (r4 : Int) =>
  some r4
  )
set_option maxRecDepth 100000 in
theorem f48_ok  (x1 : List (BitVec 16)) (x2 : List (BitVec 16)) (r : Int) (h : f48 x1 x2 = some r)  : Spec1 Tryd.prog 48 [] [] [] [vL 1 eW 0#16 x1, vL 1 eW 0#16 x2] (.int .i64 r) [] := by
  unfold f48 at h
  refine Spec1.body 0 _ _ Tryd.func48 rfl Tryd.ntmps48 rfl rfl ?_
  refine AWp.seq ?_
  refine AWp.regC [] [] [0, 1] [] ⟨13, [(0, vL 1 eW 0#16 x1), (1, vL 1 eW 0#16 x2)], [], [], 0⟩ (True) Tryd_mixed (by kernel_rfl) trivial ?_
  refine thenQ_normal ?_
  refine AWp.seq ?_
  refine AWp.seq ?_
  obtain ⟨r3, hr3, h⟩ := bind_ok h
  refine AWp.regC [] [(1, ⟨[vL 1 eW 0#16 x1], [], [], [], .int .i64 r3, [], [], []⟩)] [1, 5] [] ⟨13, [(1, vL 1 eW 0#16 x2), (5, .int .i64 r3)], [], [], 0⟩ ((callP Tryd.prog true 11 [] [] [] [] [] [vL 1 eW 0#16 x1] [vL 1 eW 0#16 x1] (.int .i64 r3) []) ∧ True) Tryd_mixed (by kernel_rfl) ⟨⟨fun _ => (f11_ok x1 r3 hr3), fun _ => ⟨.refl _, trivial⟩, .inl rfl⟩, trivial⟩ ?_
  refine thenQ_normal ?_
  refine AWp.seq ?_
  refine AWp.regC [] [] [1, 5, 9] [] ⟨13, [(1, vL 1 eW 0#16 x2), (5, .int .i64 r3), (9, .bool (r3 != (0 : Int)))], [], [], 0⟩ (True) Tryd_mixed (by kernel_rfl) trivial ?_
  refine thenQ_normal ?_
  refine AWp.cond (b := (r3 != (0 : Int))) (by kernel_rfl) (fun hc1 => ?_) (fun hc1 => ?_)
  ·
    replace h := ite_tb hc1 h
    refine AWp.seq ?_
    refine AWp.regC [] [] [4] [] ⟨13, [(4, .int .i64 r3)], [], [], 0⟩ (True) Tryd_mixed (by kernel_rfl) trivial ?_
    refine thenQ_normal ?_
    have hret := Option.some.inj h
    subst hret
    refine AWp.le (Le.mk (s := ⟨13, [(4, .int .i64 r3)], [], [], 0⟩) (s' := ⟨13, [(4, .int .i64 r3)], [], [], 0⟩) rfl rfl ⟨.refl _, trivial⟩ trivial) ?_
    refine AWp.ret ?_
    refine thenQ_ret ?_
    exact bodyQ_ret _ rfl ⟨rfl, rfl⟩ rfl
  ·
    replace h := ite_fb hc1 h
    refine AWp.skip ?_
    refine thenQ_normal ?_
    refine AWp.seq ?_
    obtain ⟨r4, hr4, h⟩ := bind_ok h
    refine AWp.regC [] [(1, ⟨[vL 1 eW 0#16 x2], [], [], [], .int .i64 r4, [], [], []⟩)] [4] [] ⟨13, [(4, .int .i64 r4)], [], [], 0⟩ ((callP Tryd.prog true 11 [] [] [] [] [] [vL 1 eW 0#16 x2] [vL 1 eW 0#16 x2] (.int .i64 r4) []) ∧ True) Tryd_mixed (by kernel_rfl) ⟨⟨fun _ => (f11_ok x2 r4 hr4), fun _ => ⟨.refl _, trivial⟩, .inl rfl⟩, trivial⟩ ?_
    refine thenQ_normal ?_
    have hret := Option.some.inj h
    subst hret
    refine AWp.le (Le.mk (s := ⟨13, [(4, .int .i64 r4)], [], [], 0⟩) (s' := ⟨13, [(4, .int .i64 r4)], [], [], 0⟩) rfl rfl ⟨.refl _, trivial⟩ trivial) ?_
    refine AWp.ret ?_
    exact bodyQ_ret _ rfl ⟨rfl, rfl⟩ rfl
def f12 (x1 : List (BitVec 16)) : Option (List (BitVec 16)) :=
  abc ((x1).length = 0) (
  some []
  ) (
  chk ((0 + (x1).length) * 2 ≤ 140737488355328) <|
  some ([] ++ x1)
  )
set_option maxRecDepth 100000 in
theorem f12_ok  (x1 : List (BitVec 16)) (r : List (BitVec 16)) (h : f12 x1 = some r)  : Spec1 Tryd.prog 12 [] [] [] [vL 1 eW 0#16 x1] (.own 3000) [(3000, bL 28 1 eW 0#16 r)] := by
  unfold f12 at h
  refine Spec1.body 0 _ _ Tryd.func12 rfl Tryd.ntmps12 rfl rfl ?_
  refine AWp.seq ?_
  refine AWp.regC [] [] [0] [] ⟨8, [(0, vL 1 eW 0#16 x1)], [], [], 0⟩ (True) Tryd_mixed (by kernel_rfl) trivial ?_
  refine thenQ_normal ?_
  refine AWp.seq ?_
  refine AWp.seq ?_
  refine AWp.regC [] [] [0, 4] [] ⟨8, [(0, vL 1 eW 0#16 x1), (4, .abool (fun b => b = true → (x1).length = 0))], [], [], 0⟩ (True) Tryd_mixed (by kernel_rfl) trivial ?_
  refine thenQ_normal ?_
  obtain ⟨hA1, hB1⟩ := abc_some h
  refine AWp.condAb (fun b => b = true → (x1).length = 0) (by kernel_rfl) (fun hc1 => ?_) (fun hc1 => ?_)
  ·
    have h := hA1 (hc1 rfl)
    refine AWp.seq ?_
    refine AWp.regC [] [] [2] [] ⟨8, [(2, .nils)], [], [], 0⟩ (True) Tryd_mixed (by kernel_rfl) trivial ?_
    refine thenQ_normal ?_
    refine AWp.le (Le.trans (Le.nilOwn (s := ⟨8, [(2, .nils)], [], [], 0⟩) 2 3000 28 1 (encF eW 0#16 []) rfl rfl (Nat.le_of_ble_eq_true rfl)) (Le.mk (s' := ⟨8, [(2, .own 3000)], [(3000, bL 28 1 eW 0#16 [])], [], 0⟩) rfl rfl ⟨.refl _, trivial⟩ ⟨⟨_, rfl, .refl _⟩, trivial⟩)) ?_
    have hret := Option.some.inj h
    subst hret
    refine AWp.le (Le.mk (s := ⟨8, [(2, .own 3000)], [(3000, bL 28 1 eW 0#16 [])], [], 0⟩) (s' := ⟨8, [(2, .own 3000)], [(3000, bL 28 1 eW 0#16 [])], [], 0⟩) rfl rfl ⟨.refl _, trivial⟩ ⟨⟨_, rfl, .refl _⟩, trivial⟩) ?_
    refine AWp.ret ?_
    refine thenQ_ret ?_
    exact bodyQ_ret _ rfl ⟨rfl, rfl⟩ rfl
  ·
    have h := hB1
    refine AWp.skip ?_
    refine thenQ_normal ?_
    refine AWp.seq ?_
    obtain ⟨ob0, h⟩ := chk_some h
    refine AWp.regC [] [] [2] [5] ⟨8, [(2, .own 5)], [(5, .rows 28 1 (0 + (x1).length) (appF 0 (lstF 1 []) (encF eW 0#16 x1)))], [], 0⟩ (((0 + (x1).length) * 2 ≤ 140737488355328) ∧ True) Tryd_mixed (by kernel_rfl) ⟨ob0, trivial⟩ ?_
    refine thenQ_normal ?_
    refine AWp.le (Le.mk (s := ⟨8, [(2, .own 5)], [(5, .rows 28 1 (0 + (x1).length) (appF 0 (lstF 1 []) (encF eW 0#16 x1)))], [], 0⟩) (s' := ⟨8, [(2, .own 5)], [(5, bL 28 1 eW 0#16 ([] ++ x1))], [], 0⟩) rfl rfl ⟨.refl _, trivial⟩ ⟨⟨_, rfl, (BLe.of (RL.app (RL.lst (enc := eW) [] rfl rfl (fun _ => rfl)) (RL.self _)))⟩, trivial⟩) ?_
    refine AWp.le (Le.trans (Le.ren (s := ⟨8, [(2, .own 5)], [(5, bL 28 1 eW 0#16 ([] ++ x1))], [], 0⟩) (swapN 5 3000) (swapN_inv 5 3000) rfl) (Le.mk (s' := ⟨8, [(2, .own 3000)], [(3000, bL 28 1 eW 0#16 ([] ++ x1))], [], 0⟩) rfl rfl ⟨.refl _, trivial⟩ ⟨⟨_, rfl, .refl _⟩, trivial⟩)) ?_
    have hret := Option.some.inj h
    subst hret
    refine AWp.le (Le.mk (s := ⟨8, [(2, .own 3000)], [(3000, bL 28 1 eW 0#16 ([] ++ x1))], [], 0⟩) (s' := ⟨8, [(2, .own 3000)], [(3000, bL 28 1 eW 0#16 ([] ++ x1))], [], 0⟩) rfl rfl ⟨.refl _, trivial⟩ ⟨⟨_, rfl, .refl _⟩, trivial⟩) ?_
    refine AWp.ret ?_
    exact bodyQ_ret _ rfl ⟨rfl, rfl⟩ rfl
def f105 (x1 : Int) : Option Int :=
  jn (fun ((i2, n3) : Int × Nat) =>
  jn (fun ((i4, n5) : Int × Nat) =>
  jn (fun ((i6, n7) : Int × Nat) =>
  chk (0 ≤ i6 ∧ i6 ≤ 255) <|
  chk (0 ≤ i6 ∧ i6 < ((cs1.length : Nat) : Int)) <|
  chk ((((cs1.getD ((i6).toNat) 0).toNat : Nat) : Int) ≤ 9223372036854775807) <|
  chk ((((n7 : Nat) : Int) + (((cs1.getD ((i6).toNat) 0).toNat : Nat) : Int)) ≤ 9223372036854775807) <|
  some (((n7 + (cs1.getD ((i6).toNat) 0).toNat) : Nat) : Int)
  ) fun (K3 : (Int × Nat) → Option Int) =>
  if (decide (i4 ≥ (256 : Int))) then (
  chk (8 ≤ IntKind.bits .u64) <|
  chk ((((n5 : Nat) : Int) + (8 : Int)) ≤ 9223372036854775807) <|
  K3 ((i4 / 2 ^ 8), (n5 + 8))
  ) else (
  K3 (i4, n5)
  )
  ) fun (K2 : (Int × Nat) → Option Int) =>
  if (decide (i2 ≥ (65536 : Int))) then (
  chk (16 ≤ IntKind.bits .u64) <|
  chk ((((n3 : Nat) : Int) + (16 : Int)) ≤ 9223372036854775807) <|
  K2 ((i2 / 2 ^ 16), (n3 + 16))
  ) else (
  K2 (i2, n3)
  )
  ) fun (K1 : (Int × Nat) → Option Int) =>
  if (decide (x1 ≥ (4294967296 : Int))) then (
  chk (32 ≤ IntKind.bits .u64) <|
  K1 ((x1 / 2 ^ 32), 32)
  ) else (
  K1 (x1, 0)
  )
set_option maxRecDepth 100000 in
theorem f105_ok  (x1 : Int) (r : Int) (h : f105 x1 = some r)  : Spec1 Tryd.prog 105 [] [] [] [.int .u64 x1] (.int .i64 r) [] := by
  unfold f105 at h
  refine Spec1.body 0 _ _ Tryd.func105 rfl Tryd.ntmps105 rfl rfl ?_
  refine AWp.seq ?_
  refine AWp.regC [] [] [0, 2] [] ⟨25, [(0, .int .u64 x1), (2, .int .i64 (0 : Int))], [], [], 0⟩ (True) Tryd_mixed (by kernel_rfl) trivial ?_
  refine thenQ_normal ?_
  obtain ⟨K1, hK1, h⟩ := jn_some h
  refine AWp.join (α := Int × Nat) (fun (x : Int × Nat) => match x with | (i2, n3) => ⟨25, [(0, .int .u64 i2), (2, .int .i64 ((n3 : Nat) : Int))], [], [], 0⟩) (fun x => K1 x = some r) ?_ ?_
  ·
    refine AWp.seq ?_
    refine AWp.regC [] [] [0, 2, 4] [] ⟨25, [(0, .int .u64 x1), (2, .int .i64 (0 : Int)), (4, .bool (decide (x1 ≥ (4294967296 : Int))))], [], [], 0⟩ (True) Tryd_mixed (by kernel_rfl) trivial ?_
    refine thenQ_normal ?_
    refine AWp.cond (b := (decide (x1 ≥ (4294967296 : Int)))) (by kernel_rfl) (fun hc1 => ?_) (fun hc1 => ?_)
    ·
      replace h := ite_tb hc1 h
      refine AWp.seq ?_
      obtain ⟨ob0p, h⟩ := chk_some h
      have ob0 : 0 ≤ (32 : Int) ∧ 32 ≤ IntKind.bits .u64 := ⟨by omega, ob0p⟩
      refine AWp.regC [] [] [0] [] ⟨25, [(0, .int .u64 (x1 / 2 ^ 32))], [], [], 0⟩ ((0 ≤ (32 : Int) ∧ 32 ≤ IntKind.bits .u64) ∧ True) Tryd_mixed (by kernel_rfl) ⟨ob0, trivial⟩ ?_
      refine thenQ_normal ?_
      refine AWp.regC [] [] [0, 2] [] ⟨25, [(0, .int .u64 (x1 / 2 ^ 32)), (2, .int .i64 (32 : Int))], [], [], 0⟩ (True) Tryd_mixed (by kernel_rfl) trivial ?_
      exact joinQ_normal ((x1 / 2 ^ 32), 32) (Le.mk (s := ⟨25, [(0, .int .u64 (x1 / 2 ^ 32)), (2, .int .i64 (32 : Int))], [], [], 0⟩) (s' := ⟨25, [(0, .int .u64 (x1 / 2 ^ 32)), (2, .int .i64 (32 : Int))], [], [], 0⟩) rfl rfl ⟨.refl _, .refl _, trivial⟩ trivial) h
    ·
      replace h := ite_fb hc1 h
      refine AWp.skip ?_
      exact joinQ_normal (x1, 0) (Le.mk (s := ⟨25, [(0, .int .u64 x1), (2, .int .i64 (0 : Int)), (4, .bool (decide (x1 ≥ (4294967296 : Int))))], [], [], 0⟩) (s' := ⟨25, [(0, .int .u64 x1), (2, .int .i64 (0 : Int))], [], [], 0⟩) rfl rfl ⟨.refl _, .refl _, trivial⟩ trivial) h
  ·
    rintro ⟨i2, n3⟩ h
    replace h := (congrFun hK1 _).symm.trans h
    obtain ⟨K2, hK2, h⟩ := jn_some h
    refine AWp.join (α := Int × Nat) (fun (x : Int × Nat) => match x with | (i4, n5) => ⟨25, [(0, .int .u64 i4), (2, .int .i64 ((n5 : Nat) : Int))], [], [], 0⟩) (fun x => K2 x = some r) ?_ ?_
    ·
      refine AWp.seq ?_
      refine AWp.regC [] [] [0, 2, 8] [] ⟨25, [(0, .int .u64 i2), (2, .int .i64 ((n3 : Nat) : Int)), (8, .bool (decide (i2 ≥ (65536 : Int))))], [], [], 0⟩ (True) Tryd_mixed (by kernel_rfl) trivial ?_
      refine thenQ_normal ?_
      refine AWp.cond (b := (decide (i2 ≥ (65536 : Int)))) (by kernel_rfl) (fun hc2 => ?_) (fun hc2 => ?_)
      ·
        replace h := ite_tb hc2 h
        refine AWp.seq ?_
        obtain ⟨ob1p, h⟩ := chk_some h
        have ob1 : 0 ≤ (16 : Int) ∧ 16 ≤ IntKind.bits .u64 := ⟨by omega, ob1p⟩
        refine AWp.regC [] [] [0, 2] [] ⟨25, [(0, .int .u64 (i2 / 2 ^ 16)), (2, .int .i64 ((n3 : Nat) : Int))], [], [], 0⟩ ((0 ≤ (16 : Int) ∧ 16 ≤ IntKind.bits .u64) ∧ True) Tryd_mixed (by kernel_rfl) ⟨ob1, trivial⟩ ?_
        refine thenQ_normal ?_
        obtain ⟨ob2p, h⟩ := chk_some h
        have ob2 : -9223372036854775808 ≤ (((n3 : Nat) : Int) + (16 : Int)) ∧ (((n3 : Nat) : Int) + (16 : Int)) ≤ 9223372036854775807 := ⟨by omega, ob2p⟩
        refine AWp.regC [] [] [0, 2] [] ⟨25, [(0, .int .u64 (i2 / 2 ^ 16)), (2, .int .i64 (((n3 + 16) : Nat) : Int))], [], [], 0⟩ ((-9223372036854775808 ≤ (((n3 : Nat) : Int) + (16 : Int)) ∧ (((n3 : Nat) : Int) + (16 : Int)) ≤ 9223372036854775807) ∧ True) Tryd_mixed (by kernel_rfl) ⟨ob2, trivial⟩ ?_
        exact joinQ_normal ((i2 / 2 ^ 16), (n3 + 16)) (Le.mk (s := ⟨25, [(0, .int .u64 (i2 / 2 ^ 16)), (2, .int .i64 (((n3 + 16) : Nat) : Int))], [], [], 0⟩) (s' := ⟨25, [(0, .int .u64 (i2 / 2 ^ 16)), (2, .int .i64 (((n3 + 16) : Nat) : Int))], [], [], 0⟩) rfl rfl ⟨.refl _, .refl _, trivial⟩ trivial) h
      ·
        replace h := ite_fb hc2 h
        refine AWp.skip ?_
        exact joinQ_normal (i2, n3) (Le.mk (s := ⟨25, [(0, .int .u64 i2), (2, .int .i64 ((n3 : Nat) : Int)), (8, .bool (decide (i2 ≥ (65536 : Int))))], [], [], 0⟩) (s' := ⟨25, [(0, .int .u64 i2), (2, .int .i64 ((n3 : Nat) : Int))], [], [], 0⟩) rfl rfl ⟨.refl _, .refl _, trivial⟩ trivial) h
    ·
      rintro ⟨i4, n5⟩ h
      replace h := (congrFun hK2 _).symm.trans h
      obtain ⟨K3, hK3, h⟩ := jn_some h
      refine AWp.join (α := Int × Nat) (fun (x : Int × Nat) => match x with | (i6, n7) => ⟨25, [(0, .int .u64 i6), (2, .int .i64 ((n7 : Nat) : Int))], [], [], 0⟩) (fun x => K3 x = some r) ?_ ?_
      ·
        refine AWp.seq ?_
        refine AWp.regC [] [] [0, 2, 14] [] ⟨25, [(0, .int .u64 i4), (2, .int .i64 ((n5 : Nat) : Int)), (14, .bool (decide (i4 ≥ (256 : Int))))], [], [], 0⟩ (True) Tryd_mixed (by kernel_rfl) trivial ?_
        refine thenQ_normal ?_
        refine AWp.cond (b := (decide (i4 ≥ (256 : Int)))) (by kernel_rfl) (fun hc3 => ?_) (fun hc3 => ?_)
        ·
          replace h := ite_tb hc3 h
          refine AWp.seq ?_
          obtain ⟨ob3p, h⟩ := chk_some h
          have ob3 : 0 ≤ (8 : Int) ∧ 8 ≤ IntKind.bits .u64 := ⟨by omega, ob3p⟩
          refine AWp.regC [] [] [0, 2] [] ⟨25, [(0, .int .u64 (i4 / 2 ^ 8)), (2, .int .i64 ((n5 : Nat) : Int))], [], [], 0⟩ ((0 ≤ (8 : Int) ∧ 8 ≤ IntKind.bits .u64) ∧ True) Tryd_mixed (by kernel_rfl) ⟨ob3, trivial⟩ ?_
          refine thenQ_normal ?_
          obtain ⟨ob4p, h⟩ := chk_some h
          have ob4 : -9223372036854775808 ≤ (((n5 : Nat) : Int) + (8 : Int)) ∧ (((n5 : Nat) : Int) + (8 : Int)) ≤ 9223372036854775807 := ⟨by omega, ob4p⟩
          refine AWp.regC [] [] [0, 2] [] ⟨25, [(0, .int .u64 (i4 / 2 ^ 8)), (2, .int .i64 (((n5 + 8) : Nat) : Int))], [], [], 0⟩ ((-9223372036854775808 ≤ (((n5 : Nat) : Int) + (8 : Int)) ∧ (((n5 : Nat) : Int) + (8 : Int)) ≤ 9223372036854775807) ∧ True) Tryd_mixed (by kernel_rfl) ⟨ob4, trivial⟩ ?_
          exact joinQ_normal ((i4 / 2 ^ 8), (n5 + 8)) (Le.mk (s := ⟨25, [(0, .int .u64 (i4 / 2 ^ 8)), (2, .int .i64 (((n5 + 8) : Nat) : Int))], [], [], 0⟩) (s' := ⟨25, [(0, .int .u64 (i4 / 2 ^ 8)), (2, .int .i64 (((n5 + 8) : Nat) : Int))], [], [], 0⟩) rfl rfl ⟨.refl _, .refl _, trivial⟩ trivial) h
        ·
          replace h := ite_fb hc3 h
          refine AWp.skip ?_
          exact joinQ_normal (i4, n5) (Le.mk (s := ⟨25, [(0, .int .u64 i4), (2, .int .i64 ((n5 : Nat) : Int)), (14, .bool (decide (i4 ≥ (256 : Int))))], [], [], 0⟩) (s' := ⟨25, [(0, .int .u64 i4), (2, .int .i64 ((n5 : Nat) : Int))], [], [], 0⟩) rfl rfl ⟨.refl _, .refl _, trivial⟩ trivial) h
      ·
        rintro ⟨i6, n7⟩ h
        replace h := (congrFun hK3 _).symm.trans h
        refine AWp.seq ?_
        obtain ⟨ob5, h⟩ := chk_some h
        obtain ⟨ob6, h⟩ := chk_some h
        obtain ⟨ob7p, h⟩ := chk_some h
        have ob7 : -9223372036854775808 ≤ (((cs1.getD ((i6).toNat) 0).toNat : Nat) : Int) ∧ (((cs1.getD ((i6).toNat) 0).toNat : Nat) : Int) ≤ 9223372036854775807 := ⟨by omega, ob7p⟩
        obtain ⟨ob8p, h⟩ := chk_some h
        have ob8 : -9223372036854775808 ≤ (((n7 : Nat) : Int) + (((cs1.getD ((i6).toNat) 0).toNat : Nat) : Int)) ∧ (((n7 : Nat) : Int) + (((cs1.getD ((i6).toNat) 0).toNat : Nat) : Int)) ≤ 9223372036854775807 := ⟨by omega, ob8p⟩
        refine AWp.regC [] [] [2] [] ⟨25, [(2, .int .i64 (((n7 + (cs1.getD ((i6).toNat) 0).toNat) : Nat) : Int))], [], [], 0⟩ ((0 ≤ i6 ∧ i6 ≤ 255) ∧ (0 ≤ i6 ∧ i6 < ((cs1.length : Nat) : Int)) ∧ (-9223372036854775808 ≤ (((cs1.getD ((i6).toNat) 0).toNat : Nat) : Int) ∧ (((cs1.getD ((i6).toNat) 0).toNat : Nat) : Int) ≤ 9223372036854775807) ∧ (-9223372036854775808 ≤ (((n7 : Nat) : Int) + (((cs1.getD ((i6).toNat) 0).toNat : Nat) : Int)) ∧ (((n7 : Nat) : Int) + (((cs1.getD ((i6).toNat) 0).toNat : Nat) : Int)) ≤ 9223372036854775807) ∧ True) Tryd_mixed (by kernel_rfl) ⟨ob5, ob6, ob7, ob8, trivial⟩ ?_
        refine thenQ_normal ?_
        have hret := Option.some.inj h
        subst hret
        refine AWp.le (Le.mk (s := ⟨25, [(2, .int .i64 (((n7 + (cs1.getD ((i6).toNat) 0).toNat) : Nat) : Int))], [], [], 0⟩) (s' := ⟨25, [(2, .int .i64 (((n7 + (cs1.getD ((i6).toNat) 0).toNat) : Nat) : Int))], [], [], 0⟩) rfl rfl ⟨.refl _, trivial⟩ trivial) ?_
        refine AWp.ret ?_
        exact bodyQ_ret _ rfl ⟨rfl, rfl⟩ rfl
def f92 (x1 : Int) : Option Int :=
  (f105 x1).bind fun (r2 : Int) =>
  some r2
set_option maxRecDepth 100000 in
theorem f92_ok  (x1 : Int) (r : Int) (h : f92 x1 = some r)  : Spec1 Tryd.prog 92 [] [] [] [.int .u64 x1] (.int .i64 r) [] := by
  unfold f92 at h
  refine Spec1.body 0 _ _ Tryd.func92 rfl Tryd.ntmps92 rfl rfl ?_
  refine AWp.seq ?_
  refine AWp.regC [] [] [0] [] ⟨8, [(0, .int .u64 x1)], [], [], 0⟩ (True) Tryd_mixed (by kernel_rfl) trivial ?_
  refine thenQ_normal ?_
  refine AWp.seq ?_
  refine AWp.cond (b := false) (by kernel_rfl) (fun hc => ?_) (fun hc => ?_)
  ·
    cases hc
  ·
    clear hc
    refine AWp.skip ?_
    refine thenQ_normal ?_
    refine AWp.seq ?_
    obtain ⟨r2, hr2, h⟩ := bind_ok h
    refine AWp.regC [] [(1, ⟨[.int .u64 x1], [], [], [], .int .i64 r2, [], [], []⟩)] [2] [] ⟨8, [(2, .int .i64 r2)], [], [], 0⟩ ((callP Tryd.prog true 105 [] [] [] [] [] [.int .u64 x1] [.int .u64 x1] (.int .i64 r2) []) ∧ True) Tryd_mixed (by kernel_rfl) ⟨⟨fun _ => (f105_ok x1 r2 hr2), fun _ => ⟨.refl _, trivial⟩, .inl rfl⟩, trivial⟩ ?_
    refine thenQ_normal ?_
    have hret := Option.some.inj h
    subst hret
    refine AWp.le (Le.mk (s := ⟨8, [(2, .int .i64 r2)], [], [], 0⟩) (s' := ⟨8, [(2, .int .i64 r2)], [], [], 0⟩) rfl rfl ⟨.refl _, trivial⟩ trivial) ?_
    refine AWp.ret ?_
    exact bodyQ_ret _ rfl ⟨rfl, rfl⟩ rfl
def f96_L1 (x1 : Int) (K1 : (List (BitVec 16)) → Option (List (BitVec 16))) : Nat → (Int × List (BitVec 16)) → Option (List (BitVec 16))
  | 0, _ => none
  | k + 1, (i6, l7) =>
    optc ((decide (i6 > x1)) == true) (f38 (l7.getD ((i6).toNat) 0#16) (l7.getD (((i6 - (1 : Int))).toNat) 0#16)) fun (r8 : Int) =>
    chk (((decide (i6 > x1)) == true) = true → 0 ≤ i6 ∧ i6 < (((l7).length : Nat) : Int)) <|
    chk (((decide (i6 > x1)) == true) = true → ((i6).toNat) < (l7).length) <|
    chk (((decide (i6 > x1)) == true) = true → -9223372036854775808 ≤ (i6 - (1 : Int)) ∧ (i6 - (1 : Int)) ≤ 9223372036854775807) <|
    chk (((decide (i6 > x1)) == true) = true → 0 ≤ (i6 - (1 : Int)) ∧ (i6 - (1 : Int)) < (((l7).length : Nat) : Int)) <|
    chk (((decide (i6 > x1)) == true) = true → (((i6 - (1 : Int))).toNat) < (l7).length) <|
    if ((decide (i6 > x1)) && (decide (r8 < (0 : Int)))) then (
    chk (-9223372036854775808 ≤ (i6 - (1 : Int)) ∧ (i6 - (1 : Int)) ≤ 9223372036854775807) <|
    chk (-9223372036854775808 ≤ (i6 - (1 : Int)) ∧ (i6 - (1 : Int)) ≤ 9223372036854775807) <|
    chk (0 ≤ (i6 - (1 : Int)) ∧ (i6 - (1 : Int)) < (((l7).length : Nat) : Int)) <|
    chk ((((i6 - (1 : Int))).toNat) < (l7).length) <|
    chk (0 ≤ i6 ∧ i6 < (((l7).length : Nat) : Int)) <|
    chk (((i6).toNat) < (l7).length) <|
    chk (0 ≤ i6 ∧ i6 < (((l7).length : Nat) : Int)) <|
    chk (((i6).toNat) < (l7).length) <|
    chk (0 ≤ (i6 - (1 : Int)) ∧ (i6 - (1 : Int)) < (((l7).length : Nat) : Int)) <|
    chk ((((i6 - (1 : Int))).toNat) < (l7).length) <|
    chk (-9223372036854775808 ≤ (i6 - (1 : Int)) ∧ (i6 - (1 : Int)) ≤ 9223372036854775807) <|
    (f96_L1 x1 K1 k) ((i6 - (1 : Int)), ((l7.set ((i6).toNat) (l7.getD (((i6 - (1 : Int))).toNat) 0#16)).set (((i6 - (1 : Int))).toNat) (l7.getD ((i6).toNat) 0#16)))
    ) else (
    K1 l7
    )
def f96_L0 (x1 : Int) (x2 : Int) : Nat → (Int × List (BitVec 16)) → Option (List (BitVec 16))
  | 0, _ => none
  | k + 1, (i4, l5) =>
    if (decide (i4 < x2)) then (
    jn (fun (l9 : List (BitVec 16)) =>
    chk (-9223372036854775808 ≤ (i4 + (1 : Int)) ∧ (i4 + (1 : Int)) ≤ 9223372036854775807) <|
    (f96_L0 x1 x2 k) ((i4 + (1 : Int)), l9)
    ) fun (K1 : (List (BitVec 16)) → Option (List (BitVec 16))) =>
    f96_L1 x1 K1 FUEL (i4, l5)
    ) else (
    some l5
    )
def f96 (x1 : Int) (x2 : Int) (x3 : List (BitVec 16)) : Option (List (BitVec 16)) :=
  chk (-9223372036854775808 ≤ (x1 + (1 : Int)) ∧ (x1 + (1 : Int)) ≤ 9223372036854775807) <|
  f96_L0 x1 x2 FUEL ((x1 + (1 : Int)), x3)
set_option maxRecDepth 100000 in
theorem f96_ok  (x1 : Int) (x2 : Int) (x3 : List (BitVec 16)) (r : List (BitVec 16)) (h : f96 x1 x2 x3 = some r)  : Spec1 Tryd.prog 96 [] [2000] [(2000, bL 28 1 eW 0#16 x3)] [.own 2000, .int .i64 x1, .int .i64 x2, .fn (.func 38) []] (.tup []) [(2000, bL 28 1 eW 0#16 r)] := by
  unfold f96 at h
  refine Spec1.body 0 _ _ Tryd.func96 rfl Tryd.ntmps96 rfl rfl ?_
  refine AWp.seq ?_
  obtain ⟨ob0, h⟩ := chk_some h
  refine AWp.regC [] [] [0, 1, 2, 3, 8] [2000] ⟨53, [(0, .own 2000), (1, .int .i64 x1), (2, .int .i64 x2), (3, .fn (.func 38) []), (8, .int .i64 (x1 + (1 : Int)))], [(2000, bL 28 1 eW 0#16 x3)], [2000], 0⟩ ((-9223372036854775808 ≤ (x1 + (1 : Int)) ∧ (x1 + (1 : Int)) ≤ 9223372036854775807) ∧ True) Tryd_mixed (by kernel_rfl) ⟨ob0, trivial⟩ ?_
  refine thenQ_normal ?_
  refine AWp.block ?_
  refine AWp.loopL (α := Nat × (Int × List (BitVec 16))) (fun x => match x with | (_, i4, l5) => ⟨53, [(0, .own 2000), (1, .int .i64 x1), (2, .int .i64 x2), (3, .fn (.func 38) []), (8, .int .i64 i4)], [(2000, bL 28 1 eW 0#16 l5)], [2000], 0⟩) (fun x => f96_L0 x1 x2 x.1 x.2 = some r) (fun x => x.1) (FUEL, (x1 + (1 : Int)), x3) (Le.mk (s := ⟨53, [(0, .own 2000), (1, .int .i64 x1), (2, .int .i64 x2), (3, .fn (.func 38) []), (8, .int .i64 (x1 + (1 : Int)))], [(2000, bL 28 1 eW 0#16 x3)], [2000], 0⟩) (s' := ⟨53, [(0, .own 2000), (1, .int .i64 x1), (2, .int .i64 x2), (3, .fn (.func 38) []), (8, .int .i64 (x1 + (1 : Int)))], [(2000, bL 28 1 eW 0#16 x3)], [2000], 0⟩) rfl rfl ⟨.refl _, .refl _, .refl _, .refl _, .refl _, trivial⟩ ⟨⟨_, rfl, .refl _⟩, trivial⟩) h ?_
  rintro ⟨k0, i4, l5⟩ h
  cases k0 with
  | zero => exact nomatch (show (none : Option (List (BitVec 16))) = some r from h)
  | succ k0 =>
  obtain ⟨C0, hC0⟩ : ∃ C, C = f96_L0 x1 x2 k0 := ⟨_, rfl⟩
  replace h := (f96_L0.eq_2 ..).symm.trans h
  try rw [← hC0] at h
  refine AWp.seq ?_
  refine AWp.seq ?_
  refine AWp.regC [] [] [0, 1, 2, 3, 8, 14] [2000] ⟨53, [(0, .own 2000), (1, .int .i64 x1), (2, .int .i64 x2), (3, .fn (.func 38) []), (8, .int .i64 i4), (14, .bool (decide (i4 < x2)))], [(2000, bL 28 1 eW 0#16 l5)], [2000], 0⟩ (True) Tryd_mixed (by kernel_rfl) trivial ?_
  refine thenQ_normal ?_
  refine AWp.cond (b := (decide (i4 < x2))) (by kernel_rfl) (fun hc1 => ?_) (fun hc1 => ?_)
  ·
    replace h := ite_tb hc1 h
    refine AWp.skip ?_
    refine thenQ_normal ?_
    obtain ⟨K1, hK1, h⟩ := jn_some h
    refine AWp.join (α := List (BitVec 16)) (fun (l9 : List (BitVec 16)) => ⟨53, [(0, .own 2000), (1, .int .i64 x1), (2, .int .i64 x2), (3, .fn (.func 38) []), (8, .int .i64 i4)], [(2000, bL 28 1 eW 0#16 l9)], [2000], 0⟩) (fun x => K1 x = some r) ?_ ?_
    ·
      refine AWp.block ?_
      refine AWp.seq ?_
      refine AWp.regC [] [] [0, 1, 2, 3, 8, 9] [2000] ⟨53, [(0, .own 2000), (1, .int .i64 x1), (2, .int .i64 x2), (3, .fn (.func 38) []), (8, .int .i64 i4), (9, .int .i64 i4)], [(2000, bL 28 1 eW 0#16 l5)], [2000], 0⟩ (True) Tryd_mixed (by kernel_rfl) trivial ?_
      refine thenQ_normal ?_
      refine AWp.block ?_
      refine AWp.loopL (α := Nat × (Int × List (BitVec 16))) (fun x => match x with | (_, i6, l7) => ⟨53, [(0, .own 2000), (1, .int .i64 x1), (2, .int .i64 x2), (3, .fn (.func 38) []), (8, .int .i64 i4), (9, .int .i64 i6)], [(2000, bL 28 1 eW 0#16 l7)], [2000], 0⟩) (fun x => f96_L1 x1 K1 x.1 x.2 = some r) (fun x => x.1) (FUEL, i4, l5) (Le.mk (s := ⟨53, [(0, .own 2000), (1, .int .i64 x1), (2, .int .i64 x2), (3, .fn (.func 38) []), (8, .int .i64 i4), (9, .int .i64 i4)], [(2000, bL 28 1 eW 0#16 l5)], [2000], 0⟩) (s' := ⟨53, [(0, .own 2000), (1, .int .i64 x1), (2, .int .i64 x2), (3, .fn (.func 38) []), (8, .int .i64 i4), (9, .int .i64 i4)], [(2000, bL 28 1 eW 0#16 l5)], [2000], 0⟩) rfl rfl ⟨.refl _, .refl _, .refl _, .refl _, .refl _, .refl _, trivial⟩ ⟨⟨_, rfl, .refl _⟩, trivial⟩) h ?_
      rintro ⟨k1, i6, l7⟩ h
      cases k1 with
      | zero => exact nomatch (show (none : Option (List (BitVec 16))) = some r from h)
      | succ k1 =>
      obtain ⟨C1, hC1⟩ : ∃ C, C = f96_L1 x1 K1 k1 := ⟨_, rfl⟩
      replace h := (f96_L1.eq_2 ..).symm.trans h
      try rw [← hC1] at h
      refine AWp.seq ?_
      refine AWp.seq ?_
      obtain ⟨r8, hr8, h⟩ := optc_some h
      obtain ⟨ob1, h⟩ := chk_some h
      have ob2 : ((decide (i6 > x1)) == true) = true → ((decide (i6 > x1)) == true) = true := fun h => h
      have ob3 : ((decide (i6 > x1)) == true) = true → ((decide (i6 > x1)) == true) = true := fun h => h
      obtain ⟨ob4, h⟩ := chk_some h
      have ob5 : ((decide (i6 > x1)) == true) = true → ((decide (i6 > x1)) == true) = true := fun h => h
      obtain ⟨ob6, h⟩ := chk_some h
      have ob7 : ((decide (i6 > x1)) == true) = true → ((decide (i6 > x1)) == true) = true := fun h => h
      obtain ⟨ob8, h⟩ := chk_some h
      have ob9 : ((decide (i6 > x1)) == true) = true → ((decide (i6 > x1)) == true) = true := fun h => h
      have ob10 : ((decide (i6 > x1)) == true) = true → ((decide (i6 > x1)) == true) = true := fun h => h
      obtain ⟨ob11, h⟩ := chk_some h
      have ob12 : ((decide (i6 > x1)) == true) = true → ((decide (i6 > x1)) == true) = true := fun h => h
      have ob13 : ((decide (i6 > x1)) == true) = true → ((decide (i6 > x1)) == true) = true := fun h => h
      have ob14 : ((decide (i6 > x1)) == true) = true → ((decide (i6 > x1)) == true) = true := fun h => h
      have ob15 : ((decide (i6 > x1)) == true) = true → ((decide (i6 > x1)) == true) = true := fun h => h
      have ob16 : ((decide (i6 > x1)) == true) = true → ((decide (i6 > x1)) == true) = true := fun h => h
      have ob17 : true = true → (decide (i6 > x1)) = true → ((decide (i6 > x1)) == true) = true := fun _ h => beq_iff_eq.2 h
      refine AWp.regC [] [(14, ⟨[.b16 (l7.getD ((i6).toNat) 0#16), .b16 (l7.getD (((i6 - (1 : Int))).toNat) 0#16)], [], [], [], .int .i64 r8, [], [], []⟩)] [0, 1, 2, 3, 8, 9, 34] [2000] ⟨53, [(0, .own 2000), (1, .int .i64 x1), (2, .int .i64 x2), (3, .fn (.func 38) []), (8, .int .i64 i4), (9, .int .i64 i6), (34, .bool ((decide (i6 > x1)) && (decide (r8 < (0 : Int)))))], [(2000, bL 28 1 eW 0#16 l7)], [2000], 0⟩ (((((decide (i6 > x1)) == true) = true → 0 ≤ i6 ∧ i6 < (((l7).length : Nat) : Int)) ∧ (((decide (i6 > x1)) == true) = true → ((decide (i6 > x1)) == true) = true) ∧ (((decide (i6 > x1)) == true) = true → ((decide (i6 > x1)) == true) = true) ∧ True) ∧ ((((decide (i6 > x1)) == true) = true → ((i6).toNat) < (l7).length) ∧ (((decide (i6 > x1)) == true) = true → ((decide (i6 > x1)) == true) = true) ∧ True) ∧ ((((decide (i6 > x1)) == true) = true → -9223372036854775808 ≤ (i6 - (1 : Int)) ∧ (i6 - (1 : Int)) ≤ 9223372036854775807) ∧ (((decide (i6 > x1)) == true) = true → ((decide (i6 > x1)) == true) = true) ∧ True) ∧ ((((decide (i6 > x1)) == true) = true → 0 ≤ (i6 - (1 : Int)) ∧ (i6 - (1 : Int)) < (((l7).length : Nat) : Int)) ∧ (((decide (i6 > x1)) == true) = true → ((decide (i6 > x1)) == true) = true) ∧ (((decide (i6 > x1)) == true) = true → ((decide (i6 > x1)) == true) = true) ∧ True) ∧ ((((decide (i6 > x1)) == true) = true → (((i6 - (1 : Int))).toNat) < (l7).length) ∧ (((decide (i6 > x1)) == true) = true → ((decide (i6 > x1)) == true) = true) ∧ True) ∧ ((callP Tryd.prog ((decide (i6 > x1)) == true) 38 [] [] [] [] [] [.b16 (l7.getD ((i6).toNat) 0#16), .b16 (l7.getD (((i6 - (1 : Int))).toNat) 0#16)] [.b16 (l7.getD ((i6).toNat) 0#16), .b16 (l7.getD (((i6 - (1 : Int))).toNat) 0#16)] (.int .i64 r8) []) ∧ (((decide (i6 > x1)) == true) = true → ((decide (i6 > x1)) == true) = true) ∧ (((decide (i6 > x1)) == true) = true → ((decide (i6 > x1)) == true) = true) ∧ (((decide (i6 > x1)) == true) = true → ((decide (i6 > x1)) == true) = true) ∧ True) ∧ ((((decide (i6 > x1)) == true) = true → ((decide (i6 > x1)) == true) = true) ∧ True) ∧ (true = true → (decide (i6 > x1)) = true → ((decide (i6 > x1)) == true) = true) ∧ True) Tryd_mixed (by kernel_rfl) ⟨⟨ob1, ob2, ob3, trivial⟩, ⟨ob4, ob5, trivial⟩, ⟨ob6, ob7, trivial⟩, ⟨ob8, ob9, ob10, trivial⟩, ⟨ob11, ob12, trivial⟩, ⟨⟨fun hc => (f38_ok (l7.getD ((i6).toNat) 0#16) (l7.getD (((i6 - (1 : Int))).toNat) 0#16) r8 (hr8 hc)), fun _ => ⟨.refl _, .refl _, trivial⟩, .inl rfl⟩, ob13, ob14, ob15, trivial⟩, ⟨ob16, trivial⟩, ob17, trivial⟩ ?_
      refine thenQ_normal ?_
      refine AWp.cond (b := ((decide (i6 > x1)) && (decide (r8 < (0 : Int))))) (by kernel_rfl) (fun hc2 => ?_) (fun hc2 => ?_)
      ·
        replace h := ite_tb hc2 h
        refine AWp.skip ?_
        refine thenQ_normal ?_
        refine AWp.seq ?_
        refine AWp.block ?_
        obtain ⟨ob18, h⟩ := chk_some h
        obtain ⟨ob19, h⟩ := chk_some h
        obtain ⟨ob20, h⟩ := chk_some h
        obtain ⟨ob21, h⟩ := chk_some h
        obtain ⟨ob22, h⟩ := chk_some h
        obtain ⟨ob23, h⟩ := chk_some h
        obtain ⟨ob24, h⟩ := chk_some h
        obtain ⟨ob25, h⟩ := chk_some h
        obtain ⟨ob26, h⟩ := chk_some h
        obtain ⟨ob27, h⟩ := chk_some h
        refine AWp.regC [] [] [0, 1, 2, 3, 8, 9] [2000] ⟨53, [(0, .own 2000), (1, .int .i64 x1), (2, .int .i64 x2), (3, .fn (.func 38) []), (8, .int .i64 i4), (9, .int .i64 i6)], [(2000, .rows 28 1 (l7).length (updF (updF (encF eW 0#16 l7) ((i6).toNat) 0 [.b16 (l7.getD (((i6 - (1 : Int))).toNat) 0#16)]) (((i6 - (1 : Int))).toNat) 0 [.b16 (l7.getD ((i6).toNat) 0#16)]))], [2000], 0⟩ ((-9223372036854775808 ≤ (i6 - (1 : Int)) ∧ (i6 - (1 : Int)) ≤ 9223372036854775807) ∧ (-9223372036854775808 ≤ (i6 - (1 : Int)) ∧ (i6 - (1 : Int)) ≤ 9223372036854775807) ∧ (0 ≤ (i6 - (1 : Int)) ∧ (i6 - (1 : Int)) < (((l7).length : Nat) : Int)) ∧ ((((i6 - (1 : Int))).toNat) < (l7).length) ∧ (0 ≤ i6 ∧ i6 < (((l7).length : Nat) : Int)) ∧ (((i6).toNat) < (l7).length) ∧ (0 ≤ i6 ∧ i6 < (((l7).length : Nat) : Int)) ∧ (((i6).toNat) < (l7).length) ∧ (0 ≤ (i6 - (1 : Int)) ∧ (i6 - (1 : Int)) < (((l7).length : Nat) : Int)) ∧ ((((i6 - (1 : Int))).toNat) < (l7).length) ∧ True) Tryd_mixed (by kernel_rfl) ⟨ob18, ob19, ob20, ob21, ob22, ob23, ob24, ob25, ob26, ob27, trivial⟩ ?_
        refine blockQ_normal ?_
        refine thenQ_normal ?_
        refine AWp.le (Le.mk (s := ⟨53, [(0, .own 2000), (1, .int .i64 x1), (2, .int .i64 x2), (3, .fn (.func 38) []), (8, .int .i64 i4), (9, .int .i64 i6)], [(2000, .rows 28 1 (l7).length (updF (updF (encF eW 0#16 l7) ((i6).toNat) 0 [.b16 (l7.getD (((i6 - (1 : Int))).toNat) 0#16)]) (((i6 - (1 : Int))).toNat) 0 [.b16 (l7.getD ((i6).toNat) 0#16)]))], [2000], 0⟩) (s' := ⟨53, [(0, .own 2000), (1, .int .i64 x1), (2, .int .i64 x2), (3, .fn (.func 38) []), (8, .int .i64 i4), (9, .int .i64 i6)], [(2000, bL 28 1 eW 0#16 ((l7.set ((i6).toNat) (l7.getD (((i6 - (1 : Int))).toNat) 0#16)).set (((i6 - (1 : Int))).toNat) (l7.getD ((i6).toNat) 0#16)))], [2000], 0⟩) rfl rfl ⟨.refl _, .refl _, .refl _, .refl _, .refl _, .refl _, trivial⟩ ⟨⟨_, rfl, (BLe.of (RL.set (l7.getD ((i6).toNat) 0#16) (RL.set (l7.getD (((i6 - (1 : Int))).toNat) 0#16) (RL.self _) (by intro j hj; match j, hj with | 0, _ => rfl)) (by intro j hj; match j, hj with | 0, _ => rfl)))⟩, trivial⟩) ?_
        obtain ⟨ob28, h⟩ := chk_some h
        refine AWp.regC [] [] [0, 1, 2, 3, 8, 9] [2000] ⟨53, [(0, .own 2000), (1, .int .i64 x1), (2, .int .i64 x2), (3, .fn (.func 38) []), (8, .int .i64 i4), (9, .int .i64 (i6 - (1 : Int)))], [(2000, bL 28 1 eW 0#16 ((l7.set ((i6).toNat) (l7.getD (((i6 - (1 : Int))).toNat) 0#16)).set (((i6 - (1 : Int))).toNat) (l7.getD ((i6).toNat) 0#16)))], [2000], 0⟩ ((-9223372036854775808 ≤ (i6 - (1 : Int)) ∧ (i6 - (1 : Int)) ≤ 9223372036854775807) ∧ True) Tryd_mixed (by kernel_rfl) ⟨ob28, trivial⟩ ?_
        rw [hC1] at h
        exact loopQ_normal (_, (i6 - (1 : Int)), ((l7.set ((i6).toNat) (l7.getD (((i6 - (1 : Int))).toNat) 0#16)).set (((i6 - (1 : Int))).toNat) (l7.getD ((i6).toNat) 0#16))) (Le.mk (s := ⟨53, [(0, .own 2000), (1, .int .i64 x1), (2, .int .i64 x2), (3, .fn (.func 38) []), (8, .int .i64 i4), (9, .int .i64 (i6 - (1 : Int)))], [(2000, bL 28 1 eW 0#16 ((l7.set ((i6).toNat) (l7.getD (((i6 - (1 : Int))).toNat) 0#16)).set (((i6 - (1 : Int))).toNat) (l7.getD ((i6).toNat) 0#16)))], [2000], 0⟩) (s' := ⟨53, [(0, .own 2000), (1, .int .i64 x1), (2, .int .i64 x2), (3, .fn (.func 38) []), (8, .int .i64 i4), (9, .int .i64 (i6 - (1 : Int)))], [(2000, bL 28 1 eW 0#16 ((l7.set ((i6).toNat) (l7.getD (((i6 - (1 : Int))).toNat) 0#16)).set (((i6 - (1 : Int))).toNat) (l7.getD ((i6).toNat) 0#16)))], [2000], 0⟩) rfl rfl ⟨.refl _, .refl _, .refl _, .refl _, .refl _, .refl _, trivial⟩ ⟨⟨_, rfl, .refl _⟩, trivial⟩) h (Nat.lt_succ_self _)
      ·
        replace h := ite_fb hc2 h
        refine AWp.exit ?_
        refine thenQ_exit ?_
        refine thenQ_exit ?_
        refine blockQ_same ?_
        refine blockQ_normal ?_
        exact joinQ_normal (l7) (Le.mk (s := ⟨53, [(0, .own 2000), (1, .int .i64 x1), (2, .int .i64 x2), (3, .fn (.func 38) []), (8, .int .i64 i4), (9, .int .i64 i6), (34, .bool ((decide (i6 > x1)) && (decide (r8 < (0 : Int)))))], [(2000, bL 28 1 eW 0#16 l7)], [2000], 0⟩) (s' := ⟨53, [(0, .own 2000), (1, .int .i64 x1), (2, .int .i64 x2), (3, .fn (.func 38) []), (8, .int .i64 i4)], [(2000, bL 28 1 eW 0#16 l7)], [2000], 0⟩) rfl rfl ⟨.refl _, .refl _, .refl _, .refl _, .refl _, trivial⟩ ⟨⟨_, rfl, .refl _⟩, trivial⟩) h
    ·
      rintro l9 h
      replace h := (congrFun hK1 _).symm.trans h
      obtain ⟨ob29, h⟩ := chk_some h
      refine AWp.regC [] [] [0, 1, 2, 3, 8] [2000] ⟨53, [(0, .own 2000), (1, .int .i64 x1), (2, .int .i64 x2), (3, .fn (.func 38) []), (8, .int .i64 (i4 + (1 : Int)))], [(2000, bL 28 1 eW 0#16 l9)], [2000], 0⟩ ((-9223372036854775808 ≤ (i4 + (1 : Int)) ∧ (i4 + (1 : Int)) ≤ 9223372036854775807) ∧ True) Tryd_mixed (by kernel_rfl) ⟨ob29, trivial⟩ ?_
      rw [hC0] at h
      exact loopQ_normal (_, (i4 + (1 : Int)), l9) (Le.mk (s := ⟨53, [(0, .own 2000), (1, .int .i64 x1), (2, .int .i64 x2), (3, .fn (.func 38) []), (8, .int .i64 (i4 + (1 : Int)))], [(2000, bL 28 1 eW 0#16 l9)], [2000], 0⟩) (s' := ⟨53, [(0, .own 2000), (1, .int .i64 x1), (2, .int .i64 x2), (3, .fn (.func 38) []), (8, .int .i64 (i4 + (1 : Int)))], [(2000, bL 28 1 eW 0#16 l9)], [2000], 0⟩) rfl rfl ⟨.refl _, .refl _, .refl _, .refl _, .refl _, trivial⟩ ⟨⟨_, rfl, .refl _⟩, trivial⟩) h (Nat.lt_succ_self _)
  ·
    replace h := ite_fb hc1 h
    refine AWp.exit ?_
    refine thenQ_exit ?_
    refine thenQ_exit ?_
    refine blockQ_same ?_
    have hret := Option.some.inj h
    subst hret
    exact bodyQ_le (Le.mk (s := ⟨53, [(0, .own 2000), (1, .int .i64 x1), (2, .int .i64 x2), (3, .fn (.func 38) []), (8, .int .i64 i4), (14, .bool (decide (i4 < x2)))], [(2000, bL 28 1 eW 0#16 l5)], [2000], 0⟩) (s' := ⟨53, [], [(2000, bL 28 1 eW 0#16 l5)], [2000], 0⟩) rfl rfl trivial ⟨⟨_, rfl, .refl _⟩, trivial⟩) (bodyQ_normal _ rfl ⟨rfl, rfl⟩ rfl)
def f110_L0 (x2 : Int) (x3 : Int) : Nat → (Int × List (BitVec 16)) → Option (List (BitVec 16))
  | 0, _ => none
  | k + 1, (i5, l6) =>
    chk (-9223372036854775808 ≤ ((2 : Int) * i5) ∧ ((2 : Int) * i5) ≤ 9223372036854775807) <|
    chk (-9223372036854775808 ≤ (((2 : Int) * i5) + (1 : Int)) ∧ (((2 : Int) * i5) + (1 : Int)) ≤ 9223372036854775807) <|
    if (decide ((((2 : Int) * i5) + (1 : Int)) ≥ x2)) then (
    some l6
    ) else (
    jn (fun (i8 : Int) =>
    (f38 (l6.getD (((x3 + i5)).toNat) 0#16) (l6.getD (((x3 + i8)).toNat) 0#16)).bind fun (r9 : Int) =>
    chk (-9223372036854775808 ≤ (x3 + i5) ∧ (x3 + i5) ≤ 9223372036854775807) <|
    chk (0 ≤ (x3 + i5) ∧ (x3 + i5) < (((l6).length : Nat) : Int)) <|
    chk ((((x3 + i5)).toNat) < (l6).length) <|
    chk (-9223372036854775808 ≤ (x3 + i8) ∧ (x3 + i8) ≤ 9223372036854775807) <|
    chk (0 ≤ (x3 + i8) ∧ (x3 + i8) < (((l6).length : Nat) : Int)) <|
    chk ((((x3 + i8)).toNat) < (l6).length) <|
    if (!(decide (r9 < (0 : Int)))) then (
    some l6
    ) else (
    chk (-9223372036854775808 ≤ (x3 + i5) ∧ (x3 + i5) ≤ 9223372036854775807) <|
    chk (-9223372036854775808 ≤ (x3 + i8) ∧ (x3 + i8) ≤ 9223372036854775807) <|
    chk (-9223372036854775808 ≤ (x3 + i8) ∧ (x3 + i8) ≤ 9223372036854775807) <|
    chk (0 ≤ (x3 + i8) ∧ (x3 + i8) < (((l6).length : Nat) : Int)) <|
    chk ((((x3 + i8)).toNat) < (l6).length) <|
    chk (-9223372036854775808 ≤ (x3 + i5) ∧ (x3 + i5) ≤ 9223372036854775807) <|
    chk (0 ≤ (x3 + i5) ∧ (x3 + i5) < (((l6).length : Nat) : Int)) <|
    chk ((((x3 + i5)).toNat) < (l6).length) <|
    chk (0 ≤ (x3 + i5) ∧ (x3 + i5) < (((l6).length : Nat) : Int)) <|
    chk ((((x3 + i5)).toNat) < (l6).length) <|
    chk (0 ≤ (x3 + i8) ∧ (x3 + i8) < (((l6).length : Nat) : Int)) <|
    chk ((((x3 + i8)).toNat) < (l6).length) <|
    (f110_L0 x2 x3 k) (i8, ((l6.set (((x3 + i5)).toNat) (l6.getD (((x3 + i8)).toNat) 0#16)).set (((x3 + i8)).toNat) (l6.getD (((x3 + i5)).toNat) 0#16)))
    )
    ) fun (K1 : Int → Option (List (BitVec 16))) =>
    optc ((decide (((((2 : Int) * i5) + (1 : Int)) + (1 : Int)) < x2)) == true) (f38 (l6.getD (((x3 + (((2 : Int) * i5) + (1 : Int)))).toNat) 0#16) (l6.getD ((((x3 + (((2 : Int) * i5) + (1 : Int))) + (1 : Int))).toNat) 0#16)) fun (r7 : Int) =>
    chk (-9223372036854775808 ≤ ((((2 : Int) * i5) + (1 : Int)) + (1 : Int)) ∧ ((((2 : Int) * i5) + (1 : Int)) + (1 : Int)) ≤ 9223372036854775807) <|
    chk (((decide (((((2 : Int) * i5) + (1 : Int)) + (1 : Int)) < x2)) == true) = true → -9223372036854775808 ≤ (x3 + (((2 : Int) * i5) + (1 : Int))) ∧ (x3 + (((2 : Int) * i5) + (1 : Int))) ≤ 9223372036854775807) <|
    chk (((decide (((((2 : Int) * i5) + (1 : Int)) + (1 : Int)) < x2)) == true) = true → 0 ≤ (x3 + (((2 : Int) * i5) + (1 : Int))) ∧ (x3 + (((2 : Int) * i5) + (1 : Int))) < (((l6).length : Nat) : Int)) <|
    chk (((decide (((((2 : Int) * i5) + (1 : Int)) + (1 : Int)) < x2)) == true) = true → (((x3 + (((2 : Int) * i5) + (1 : Int)))).toNat) < (l6).length) <|
    chk (((decide (((((2 : Int) * i5) + (1 : Int)) + (1 : Int)) < x2)) == true) = true → -9223372036854775808 ≤ (x3 + (((2 : Int) * i5) + (1 : Int))) ∧ (x3 + (((2 : Int) * i5) + (1 : Int))) ≤ 9223372036854775807) <|
    chk (((decide (((((2 : Int) * i5) + (1 : Int)) + (1 : Int)) < x2)) == true) = true → -9223372036854775808 ≤ ((x3 + (((2 : Int) * i5) + (1 : Int))) + (1 : Int)) ∧ ((x3 + (((2 : Int) * i5) + (1 : Int))) + (1 : Int)) ≤ 9223372036854775807) <|
    chk (((decide (((((2 : Int) * i5) + (1 : Int)) + (1 : Int)) < x2)) == true) = true → 0 ≤ ((x3 + (((2 : Int) * i5) + (1 : Int))) + (1 : Int)) ∧ ((x3 + (((2 : Int) * i5) + (1 : Int))) + (1 : Int)) < (((l6).length : Nat) : Int)) <|
    chk (((decide (((((2 : Int) * i5) + (1 : Int)) + (1 : Int)) < x2)) == true) = true → ((((x3 + (((2 : Int) * i5) + (1 : Int))) + (1 : Int))).toNat) < (l6).length) <|
    if ((decide (((((2 : Int) * i5) + (1 : Int)) + (1 : Int)) < x2)) && (decide (r7 < (0 : Int)))) then (
    chk (-9223372036854775808 ≤ ((((2 : Int) * i5) + (1 : Int)) + (1 : Int)) ∧ ((((2 : Int) * i5) + (1 : Int)) + (1 : Int)) ≤ 9223372036854775807) <|
    K1 ((((2 : Int) * i5) + (1 : Int)) + (1 : Int))
    ) else (
    K1 (((2 : Int) * i5) + (1 : Int))
    )
    )
def f110 (x1 : Int) (x2 : Int) (x3 : Int) (x4 : List (BitVec 16)) : Option (List (BitVec 16)) :=
  f110_L0 x2 x3 FUEL (x1, x4)
set_option maxRecDepth 100000 in
theorem f110_ok  (x1 : Int) (x2 : Int) (x3 : Int) (x4 : List (BitVec 16)) (r : List (BitVec 16)) (h : f110 x1 x2 x3 x4 = some r)  : Spec1 Tryd.prog 110 [] [2000] [(2000, bL 28 1 eW 0#16 x4)] [.own 2000, .int .i64 x1, .int .i64 x2, .int .i64 x3, .fn (.func 38) []] (.tup []) [(2000, bL 28 1 eW 0#16 r)] := by
  unfold f110 at h
  refine Spec1.body 0 _ _ Tryd.func110 rfl Tryd.ntmps110 rfl rfl ?_
  refine AWp.seq ?_
  refine AWp.regC [] [] [0, 2, 3, 4, 10] [2000] ⟨82, [(0, .own 2000), (2, .int .i64 x2), (3, .int .i64 x3), (4, .fn (.func 38) []), (10, .int .i64 x1)], [(2000, bL 28 1 eW 0#16 x4)], [2000], 0⟩ (True) Tryd_mixed (by kernel_rfl) trivial ?_
  refine thenQ_normal ?_
  refine AWp.block ?_
  refine AWp.loopL (α := Nat × (Int × List (BitVec 16))) (fun x => match x with | (_, i5, l6) => ⟨82, [(0, .own 2000), (2, .int .i64 x2), (3, .int .i64 x3), (4, .fn (.func 38) []), (10, .int .i64 i5)], [(2000, bL 28 1 eW 0#16 l6)], [2000], 0⟩) (fun x => f110_L0 x2 x3 x.1 x.2 = some r) (fun x => x.1) (FUEL, x1, x4) (Le.mk (s := ⟨82, [(0, .own 2000), (2, .int .i64 x2), (3, .int .i64 x3), (4, .fn (.func 38) []), (10, .int .i64 x1)], [(2000, bL 28 1 eW 0#16 x4)], [2000], 0⟩) (s' := ⟨82, [(0, .own 2000), (2, .int .i64 x2), (3, .int .i64 x3), (4, .fn (.func 38) []), (10, .int .i64 x1)], [(2000, bL 28 1 eW 0#16 x4)], [2000], 0⟩) rfl rfl ⟨.refl _, .refl _, .refl _, .refl _, .refl _, trivial⟩ ⟨⟨_, rfl, .refl _⟩, trivial⟩) h ?_
  rintro ⟨k0, i5, l6⟩ h
  cases k0 with
  | zero => exact nomatch (show (none : Option (List (BitVec 16))) = some r from h)
  | succ k0 =>
  obtain ⟨C0, hC0⟩ : ∃ C, C = f110_L0 x2 x3 k0 := ⟨_, rfl⟩
  replace h := (f110_L0.eq_2 ..).symm.trans h
  try rw [← hC0] at h
  refine AWp.block ?_
  refine AWp.seq ?_
  obtain ⟨ob0, h⟩ := chk_some h
  obtain ⟨ob1, h⟩ := chk_some h
  refine AWp.regC [] [] [0, 2, 3, 4, 10, 11] [2000] ⟨82, [(0, .own 2000), (2, .int .i64 x2), (3, .int .i64 x3), (4, .fn (.func 38) []), (10, .int .i64 i5), (11, .int .i64 (((2 : Int) * i5) + (1 : Int)))], [(2000, bL 28 1 eW 0#16 l6)], [2000], 0⟩ ((-9223372036854775808 ≤ ((2 : Int) * i5) ∧ ((2 : Int) * i5) ≤ 9223372036854775807) ∧ (-9223372036854775808 ≤ (((2 : Int) * i5) + (1 : Int)) ∧ (((2 : Int) * i5) + (1 : Int)) ≤ 9223372036854775807) ∧ True) Tryd_mixed (by kernel_rfl) ⟨ob0, ob1, trivial⟩ ?_
  refine thenQ_normal ?_
  refine AWp.seq ?_
  refine AWp.seq ?_
  refine AWp.regC [] [] [0, 2, 3, 4, 10, 11, 18] [2000] ⟨82, [(0, .own 2000), (2, .int .i64 x2), (3, .int .i64 x3), (4, .fn (.func 38) []), (10, .int .i64 i5), (11, .int .i64 (((2 : Int) * i5) + (1 : Int))), (18, .bool (decide ((((2 : Int) * i5) + (1 : Int)) ≥ x2)))], [(2000, bL 28 1 eW 0#16 l6)], [2000], 0⟩ (True) Tryd_mixed (by kernel_rfl) trivial ?_
  refine thenQ_normal ?_
  refine AWp.cond (b := (decide ((((2 : Int) * i5) + (1 : Int)) ≥ x2))) (by kernel_rfl) (fun hc1 => ?_) (fun hc1 => ?_)
  ·
    replace h := ite_tb hc1 h
    refine AWp.exit ?_
    refine thenQ_exit ?_
    refine blockQ_other (by decide) ?_
    refine thenQ_exit ?_
    refine blockQ_same ?_
    have hret := Option.some.inj h
    subst hret
    exact bodyQ_le (Le.mk (s := ⟨82, [(0, .own 2000), (2, .int .i64 x2), (3, .int .i64 x3), (4, .fn (.func 38) []), (10, .int .i64 i5), (11, .int .i64 (((2 : Int) * i5) + (1 : Int))), (18, .bool (decide ((((2 : Int) * i5) + (1 : Int)) ≥ x2)))], [(2000, bL 28 1 eW 0#16 l6)], [2000], 0⟩) (s' := ⟨82, [], [(2000, bL 28 1 eW 0#16 l6)], [2000], 0⟩) rfl rfl trivial ⟨⟨_, rfl, .refl _⟩, trivial⟩) (bodyQ_normal _ rfl ⟨rfl, rfl⟩ rfl)
  ·
    replace h := ite_fb hc1 h
    refine AWp.skip ?_
    refine thenQ_normal ?_
    obtain ⟨K1, hK1, h⟩ := jn_some h
    refine AWp.join (α := Int) (fun (i8 : Int) => ⟨82, [(0, .own 2000), (2, .int .i64 x2), (3, .int .i64 x3), (4, .fn (.func 38) []), (10, .int .i64 i5), (11, .int .i64 i8)], [(2000, bL 28 1 eW 0#16 l6)], [2000], 0⟩) (fun x => K1 x = some r) ?_ ?_
    ·
      refine AWp.seq ?_
      obtain ⟨r7, hr7, h⟩ := optc_some h
      obtain ⟨ob2, h⟩ := chk_some h
      obtain ⟨ob3, h⟩ := chk_some h
      have ob4 : ((decide (((((2 : Int) * i5) + (1 : Int)) + (1 : Int)) < x2)) == true) = true → ((decide (((((2 : Int) * i5) + (1 : Int)) + (1 : Int)) < x2)) == true) = true := fun h => h
      have ob5 : ((decide (((((2 : Int) * i5) + (1 : Int)) + (1 : Int)) < x2)) == true) = true → ((decide (((((2 : Int) * i5) + (1 : Int)) + (1 : Int)) < x2)) == true) = true := fun h => h
      obtain ⟨ob6, h⟩ := chk_some h
      have ob7 : ((decide (((((2 : Int) * i5) + (1 : Int)) + (1 : Int)) < x2)) == true) = true → ((decide (((((2 : Int) * i5) + (1 : Int)) + (1 : Int)) < x2)) == true) = true := fun h => h
      have ob8 : ((decide (((((2 : Int) * i5) + (1 : Int)) + (1 : Int)) < x2)) == true) = true → ((decide (((((2 : Int) * i5) + (1 : Int)) + (1 : Int)) < x2)) == true) = true := fun h => h
      obtain ⟨ob9, h⟩ := chk_some h
      have ob10 : ((decide (((((2 : Int) * i5) + (1 : Int)) + (1 : Int)) < x2)) == true) = true → ((decide (((((2 : Int) * i5) + (1 : Int)) + (1 : Int)) < x2)) == true) = true := fun h => h
      obtain ⟨ob11, h⟩ := chk_some h
      have ob12 : ((decide (((((2 : Int) * i5) + (1 : Int)) + (1 : Int)) < x2)) == true) = true → ((decide (((((2 : Int) * i5) + (1 : Int)) + (1 : Int)) < x2)) == true) = true := fun h => h
      have ob13 : ((decide (((((2 : Int) * i5) + (1 : Int)) + (1 : Int)) < x2)) == true) = true → ((decide (((((2 : Int) * i5) + (1 : Int)) + (1 : Int)) < x2)) == true) = true := fun h => h
      obtain ⟨ob14, h⟩ := chk_some h
      have ob15 : ((decide (((((2 : Int) * i5) + (1 : Int)) + (1 : Int)) < x2)) == true) = true → ((decide (((((2 : Int) * i5) + (1 : Int)) + (1 : Int)) < x2)) == true) = true := fun h => h
      obtain ⟨ob16, h⟩ := chk_some h
      have ob17 : ((decide (((((2 : Int) * i5) + (1 : Int)) + (1 : Int)) < x2)) == true) = true → ((decide (((((2 : Int) * i5) + (1 : Int)) + (1 : Int)) < x2)) == true) = true := fun h => h
      have ob18 : ((decide (((((2 : Int) * i5) + (1 : Int)) + (1 : Int)) < x2)) == true) = true → ((decide (((((2 : Int) * i5) + (1 : Int)) + (1 : Int)) < x2)) == true) = true := fun h => h
      obtain ⟨ob19, h⟩ := chk_some h
      have ob20 : ((decide (((((2 : Int) * i5) + (1 : Int)) + (1 : Int)) < x2)) == true) = true → ((decide (((((2 : Int) * i5) + (1 : Int)) + (1 : Int)) < x2)) == true) = true := fun h => h
      have ob21 : ((decide (((((2 : Int) * i5) + (1 : Int)) + (1 : Int)) < x2)) == true) = true → ((decide (((((2 : Int) * i5) + (1 : Int)) + (1 : Int)) < x2)) == true) = true := fun h => h
      have ob22 : ((decide (((((2 : Int) * i5) + (1 : Int)) + (1 : Int)) < x2)) == true) = true → ((decide (((((2 : Int) * i5) + (1 : Int)) + (1 : Int)) < x2)) == true) = true := fun h => h
      have ob23 : ((decide (((((2 : Int) * i5) + (1 : Int)) + (1 : Int)) < x2)) == true) = true → ((decide (((((2 : Int) * i5) + (1 : Int)) + (1 : Int)) < x2)) == true) = true := fun h => h
      have ob24 : ((decide (((((2 : Int) * i5) + (1 : Int)) + (1 : Int)) < x2)) == true) = true → ((decide (((((2 : Int) * i5) + (1 : Int)) + (1 : Int)) < x2)) == true) = true := fun h => h
      have ob25 : true = true → (decide (((((2 : Int) * i5) + (1 : Int)) + (1 : Int)) < x2)) = true → ((decide (((((2 : Int) * i5) + (1 : Int)) + (1 : Int)) < x2)) == true) = true := fun _ h => beq_iff_eq.2 h
      refine AWp.regC [] [(19, ⟨[.b16 (l6.getD (((x3 + (((2 : Int) * i5) + (1 : Int)))).toNat) 0#16), .b16 (l6.getD ((((x3 + (((2 : Int) * i5) + (1 : Int))) + (1 : Int))).toNat) 0#16)], [], [], [], .int .i64 r7, [], [], []⟩)] [0, 2, 3, 4, 10, 11, 40] [2000] ⟨82, [(0, .own 2000), (2, .int .i64 x2), (3, .int .i64 x3), (4, .fn (.func 38) []), (10, .int .i64 i5), (11, .int .i64 (((2 : Int) * i5) + (1 : Int))), (40, .bool ((decide (((((2 : Int) * i5) + (1 : Int)) + (1 : Int)) < x2)) && (decide (r7 < (0 : Int)))))], [(2000, bL 28 1 eW 0#16 l6)], [2000], 0⟩ ((-9223372036854775808 ≤ ((((2 : Int) * i5) + (1 : Int)) + (1 : Int)) ∧ ((((2 : Int) * i5) + (1 : Int)) + (1 : Int)) ≤ 9223372036854775807) ∧ ((((decide (((((2 : Int) * i5) + (1 : Int)) + (1 : Int)) < x2)) == true) = true → -9223372036854775808 ≤ (x3 + (((2 : Int) * i5) + (1 : Int))) ∧ (x3 + (((2 : Int) * i5) + (1 : Int))) ≤ 9223372036854775807) ∧ (((decide (((((2 : Int) * i5) + (1 : Int)) + (1 : Int)) < x2)) == true) = true → ((decide (((((2 : Int) * i5) + (1 : Int)) + (1 : Int)) < x2)) == true) = true) ∧ (((decide (((((2 : Int) * i5) + (1 : Int)) + (1 : Int)) < x2)) == true) = true → ((decide (((((2 : Int) * i5) + (1 : Int)) + (1 : Int)) < x2)) == true) = true) ∧ True) ∧ ((((decide (((((2 : Int) * i5) + (1 : Int)) + (1 : Int)) < x2)) == true) = true → 0 ≤ (x3 + (((2 : Int) * i5) + (1 : Int))) ∧ (x3 + (((2 : Int) * i5) + (1 : Int))) < (((l6).length : Nat) : Int)) ∧ (((decide (((((2 : Int) * i5) + (1 : Int)) + (1 : Int)) < x2)) == true) = true → ((decide (((((2 : Int) * i5) + (1 : Int)) + (1 : Int)) < x2)) == true) = true) ∧ (((decide (((((2 : Int) * i5) + (1 : Int)) + (1 : Int)) < x2)) == true) = true → ((decide (((((2 : Int) * i5) + (1 : Int)) + (1 : Int)) < x2)) == true) = true) ∧ True) ∧ ((((decide (((((2 : Int) * i5) + (1 : Int)) + (1 : Int)) < x2)) == true) = true → (((x3 + (((2 : Int) * i5) + (1 : Int)))).toNat) < (l6).length) ∧ (((decide (((((2 : Int) * i5) + (1 : Int)) + (1 : Int)) < x2)) == true) = true → ((decide (((((2 : Int) * i5) + (1 : Int)) + (1 : Int)) < x2)) == true) = true) ∧ True) ∧ ((((decide (((((2 : Int) * i5) + (1 : Int)) + (1 : Int)) < x2)) == true) = true → -9223372036854775808 ≤ (x3 + (((2 : Int) * i5) + (1 : Int))) ∧ (x3 + (((2 : Int) * i5) + (1 : Int))) ≤ 9223372036854775807) ∧ (((decide (((((2 : Int) * i5) + (1 : Int)) + (1 : Int)) < x2)) == true) = true → ((decide (((((2 : Int) * i5) + (1 : Int)) + (1 : Int)) < x2)) == true) = true) ∧ (((decide (((((2 : Int) * i5) + (1 : Int)) + (1 : Int)) < x2)) == true) = true → ((decide (((((2 : Int) * i5) + (1 : Int)) + (1 : Int)) < x2)) == true) = true) ∧ True) ∧ ((((decide (((((2 : Int) * i5) + (1 : Int)) + (1 : Int)) < x2)) == true) = true → -9223372036854775808 ≤ ((x3 + (((2 : Int) * i5) + (1 : Int))) + (1 : Int)) ∧ ((x3 + (((2 : Int) * i5) + (1 : Int))) + (1 : Int)) ≤ 9223372036854775807) ∧ (((decide (((((2 : Int) * i5) + (1 : Int)) + (1 : Int)) < x2)) == true) = true → ((decide (((((2 : Int) * i5) + (1 : Int)) + (1 : Int)) < x2)) == true) = true) ∧ True) ∧ ((((decide (((((2 : Int) * i5) + (1 : Int)) + (1 : Int)) < x2)) == true) = true → 0 ≤ ((x3 + (((2 : Int) * i5) + (1 : Int))) + (1 : Int)) ∧ ((x3 + (((2 : Int) * i5) + (1 : Int))) + (1 : Int)) < (((l6).length : Nat) : Int)) ∧ (((decide (((((2 : Int) * i5) + (1 : Int)) + (1 : Int)) < x2)) == true) = true → ((decide (((((2 : Int) * i5) + (1 : Int)) + (1 : Int)) < x2)) == true) = true) ∧ (((decide (((((2 : Int) * i5) + (1 : Int)) + (1 : Int)) < x2)) == true) = true → ((decide (((((2 : Int) * i5) + (1 : Int)) + (1 : Int)) < x2)) == true) = true) ∧ True) ∧ ((((decide (((((2 : Int) * i5) + (1 : Int)) + (1 : Int)) < x2)) == true) = true → ((((x3 + (((2 : Int) * i5) + (1 : Int))) + (1 : Int))).toNat) < (l6).length) ∧ (((decide (((((2 : Int) * i5) + (1 : Int)) + (1 : Int)) < x2)) == true) = true → ((decide (((((2 : Int) * i5) + (1 : Int)) + (1 : Int)) < x2)) == true) = true) ∧ True) ∧ ((callP Tryd.prog ((decide (((((2 : Int) * i5) + (1 : Int)) + (1 : Int)) < x2)) == true) 38 [] [] [] [] [] [.b16 (l6.getD (((x3 + (((2 : Int) * i5) + (1 : Int)))).toNat) 0#16), .b16 (l6.getD ((((x3 + (((2 : Int) * i5) + (1 : Int))) + (1 : Int))).toNat) 0#16)] [.b16 (l6.getD (((x3 + (((2 : Int) * i5) + (1 : Int)))).toNat) 0#16), .b16 (l6.getD ((((x3 + (((2 : Int) * i5) + (1 : Int))) + (1 : Int))).toNat) 0#16)] (.int .i64 r7) []) ∧ (((decide (((((2 : Int) * i5) + (1 : Int)) + (1 : Int)) < x2)) == true) = true → ((decide (((((2 : Int) * i5) + (1 : Int)) + (1 : Int)) < x2)) == true) = true) ∧ (((decide (((((2 : Int) * i5) + (1 : Int)) + (1 : Int)) < x2)) == true) = true → ((decide (((((2 : Int) * i5) + (1 : Int)) + (1 : Int)) < x2)) == true) = true) ∧ (((decide (((((2 : Int) * i5) + (1 : Int)) + (1 : Int)) < x2)) == true) = true → ((decide (((((2 : Int) * i5) + (1 : Int)) + (1 : Int)) < x2)) == true) = true) ∧ True) ∧ ((((decide (((((2 : Int) * i5) + (1 : Int)) + (1 : Int)) < x2)) == true) = true → ((decide (((((2 : Int) * i5) + (1 : Int)) + (1 : Int)) < x2)) == true) = true) ∧ True) ∧ (true = true → (decide (((((2 : Int) * i5) + (1 : Int)) + (1 : Int)) < x2)) = true → ((decide (((((2 : Int) * i5) + (1 : Int)) + (1 : Int)) < x2)) == true) = true) ∧ True) Tryd_mixed (by kernel_rfl) ⟨ob2, ⟨ob3, ob4, ob5, trivial⟩, ⟨ob6, ob7, ob8, trivial⟩, ⟨ob9, ob10, trivial⟩, ⟨ob11, ob12, ob13, trivial⟩, ⟨ob14, ob15, trivial⟩, ⟨ob16, ob17, ob18, trivial⟩, ⟨ob19, ob20, trivial⟩, ⟨⟨fun hc => (f38_ok (l6.getD (((x3 + (((2 : Int) * i5) + (1 : Int)))).toNat) 0#16) (l6.getD ((((x3 + (((2 : Int) * i5) + (1 : Int))) + (1 : Int))).toNat) 0#16) r7 (hr7 hc)), fun _ => ⟨.refl _, .refl _, trivial⟩, .inl rfl⟩, ob21, ob22, ob23, trivial⟩, ⟨ob24, trivial⟩, ob25, trivial⟩ ?_
      refine thenQ_normal ?_
      refine AWp.cond (b := ((decide (((((2 : Int) * i5) + (1 : Int)) + (1 : Int)) < x2)) && (decide (r7 < (0 : Int))))) (by kernel_rfl) (fun hc2 => ?_) (fun hc2 => ?_)
      ·
        replace h := ite_tb hc2 h
        obtain ⟨ob26, h⟩ := chk_some h
        refine AWp.regC [] [] [0, 2, 3, 4, 10, 11] [2000] ⟨82, [(0, .own 2000), (2, .int .i64 x2), (3, .int .i64 x3), (4, .fn (.func 38) []), (10, .int .i64 i5), (11, .int .i64 ((((2 : Int) * i5) + (1 : Int)) + (1 : Int)))], [(2000, bL 28 1 eW 0#16 l6)], [2000], 0⟩ ((-9223372036854775808 ≤ ((((2 : Int) * i5) + (1 : Int)) + (1 : Int)) ∧ ((((2 : Int) * i5) + (1 : Int)) + (1 : Int)) ≤ 9223372036854775807) ∧ True) Tryd_mixed (by kernel_rfl) ⟨ob26, trivial⟩ ?_
        exact joinQ_normal (((((2 : Int) * i5) + (1 : Int)) + (1 : Int))) (Le.mk (s := ⟨82, [(0, .own 2000), (2, .int .i64 x2), (3, .int .i64 x3), (4, .fn (.func 38) []), (10, .int .i64 i5), (11, .int .i64 ((((2 : Int) * i5) + (1 : Int)) + (1 : Int)))], [(2000, bL 28 1 eW 0#16 l6)], [2000], 0⟩) (s' := ⟨82, [(0, .own 2000), (2, .int .i64 x2), (3, .int .i64 x3), (4, .fn (.func 38) []), (10, .int .i64 i5), (11, .int .i64 ((((2 : Int) * i5) + (1 : Int)) + (1 : Int)))], [(2000, bL 28 1 eW 0#16 l6)], [2000], 0⟩) rfl rfl ⟨.refl _, .refl _, .refl _, .refl _, .refl _, .refl _, trivial⟩ ⟨⟨_, rfl, .refl _⟩, trivial⟩) h
      ·
        replace h := ite_fb hc2 h
        refine AWp.skip ?_
        exact joinQ_normal ((((2 : Int) * i5) + (1 : Int))) (Le.mk (s := ⟨82, [(0, .own 2000), (2, .int .i64 x2), (3, .int .i64 x3), (4, .fn (.func 38) []), (10, .int .i64 i5), (11, .int .i64 (((2 : Int) * i5) + (1 : Int))), (40, .bool ((decide (((((2 : Int) * i5) + (1 : Int)) + (1 : Int)) < x2)) && (decide (r7 < (0 : Int)))))], [(2000, bL 28 1 eW 0#16 l6)], [2000], 0⟩) (s' := ⟨82, [(0, .own 2000), (2, .int .i64 x2), (3, .int .i64 x3), (4, .fn (.func 38) []), (10, .int .i64 i5), (11, .int .i64 (((2 : Int) * i5) + (1 : Int)))], [(2000, bL 28 1 eW 0#16 l6)], [2000], 0⟩) rfl rfl ⟨.refl _, .refl _, .refl _, .refl _, .refl _, .refl _, trivial⟩ ⟨⟨_, rfl, .refl _⟩, trivial⟩) h
    ·
      rintro i8 h
      replace h := (congrFun hK1 _).symm.trans h
      refine AWp.seq ?_
      refine AWp.seq ?_
      obtain ⟨r9, hr9, h⟩ := bind_ok h
      obtain ⟨ob27, h⟩ := chk_some h
      obtain ⟨ob28, h⟩ := chk_some h
      obtain ⟨ob29, h⟩ := chk_some h
      obtain ⟨ob30, h⟩ := chk_some h
      obtain ⟨ob31, h⟩ := chk_some h
      obtain ⟨ob32, h⟩ := chk_some h
      refine AWp.regC [] [(13, ⟨[.b16 (l6.getD (((x3 + i5)).toNat) 0#16), .b16 (l6.getD (((x3 + i8)).toNat) 0#16)], [], [], [], .int .i64 r9, [], [], []⟩)] [0, 2, 3, 4, 10, 11, 58] [2000] ⟨82, [(0, .own 2000), (2, .int .i64 x2), (3, .int .i64 x3), (4, .fn (.func 38) []), (10, .int .i64 i5), (11, .int .i64 i8), (58, .bool (!(decide (r9 < (0 : Int)))))], [(2000, bL 28 1 eW 0#16 l6)], [2000], 0⟩ ((-9223372036854775808 ≤ (x3 + i5) ∧ (x3 + i5) ≤ 9223372036854775807) ∧ (0 ≤ (x3 + i5) ∧ (x3 + i5) < (((l6).length : Nat) : Int)) ∧ ((((x3 + i5)).toNat) < (l6).length) ∧ (-9223372036854775808 ≤ (x3 + i8) ∧ (x3 + i8) ≤ 9223372036854775807) ∧ (0 ≤ (x3 + i8) ∧ (x3 + i8) < (((l6).length : Nat) : Int)) ∧ ((((x3 + i8)).toNat) < (l6).length) ∧ (callP Tryd.prog true 38 [] [] [] [] [] [.b16 (l6.getD (((x3 + i5)).toNat) 0#16), .b16 (l6.getD (((x3 + i8)).toNat) 0#16)] [.b16 (l6.getD (((x3 + i5)).toNat) 0#16), .b16 (l6.getD (((x3 + i8)).toNat) 0#16)] (.int .i64 r9) []) ∧ True) Tryd_mixed (by kernel_rfl) ⟨ob27, ob28, ob29, ob30, ob31, ob32, ⟨fun _ => (f38_ok (l6.getD (((x3 + i5)).toNat) 0#16) (l6.getD (((x3 + i8)).toNat) 0#16) r9 hr9), fun _ => ⟨.refl _, .refl _, trivial⟩, .inl rfl⟩, trivial⟩ ?_
      refine thenQ_normal ?_
      refine AWp.cond (b := (!(decide (r9 < (0 : Int))))) (by kernel_rfl) (fun hc3 => ?_) (fun hc3 => ?_)
      ·
        replace h := ite_tb hc3 h
        have hret := Option.some.inj h
        subst hret
        refine AWp.le (Le.mk (s := ⟨82, [(0, .own 2000), (2, .int .i64 x2), (3, .int .i64 x3), (4, .fn (.func 38) []), (10, .int .i64 i5), (11, .int .i64 i8), (58, .bool (!(decide (r9 < (0 : Int)))))], [(2000, bL 28 1 eW 0#16 l6)], [2000], 0⟩) (s' := ⟨82, [], [(2000, bL 28 1 eW 0#16 l6)], [2000], 0⟩) rfl rfl trivial ⟨⟨_, rfl, .refl _⟩, trivial⟩) ?_
        refine AWp.ret ?_
        refine thenQ_ret ?_
        refine blockQ_ret ?_
        refine thenQ_ret ?_
        refine blockQ_ret ?_
        exact bodyQ_ret _ rfl ⟨rfl, rfl⟩ rfl
      ·
        replace h := ite_fb hc3 h
        refine AWp.skip ?_
        refine thenQ_normal ?_
        refine AWp.seq ?_
        obtain ⟨ob33, h⟩ := chk_some h
        obtain ⟨ob34, h⟩ := chk_some h
        obtain ⟨ob35, h⟩ := chk_some h
        obtain ⟨ob36, h⟩ := chk_some h
        obtain ⟨ob37, h⟩ := chk_some h
        obtain ⟨ob38, h⟩ := chk_some h
        obtain ⟨ob39, h⟩ := chk_some h
        obtain ⟨ob40, h⟩ := chk_some h
        obtain ⟨ob41, h⟩ := chk_some h
        obtain ⟨ob42, h⟩ := chk_some h
        obtain ⟨ob43, h⟩ := chk_some h
        obtain ⟨ob44, h⟩ := chk_some h
        refine AWp.regC [] [] [0, 2, 3, 4, 11] [2000] ⟨82, [(0, .own 2000), (2, .int .i64 x2), (3, .int .i64 x3), (4, .fn (.func 38) []), (11, .int .i64 i8)], [(2000, .rows 28 1 (l6).length (updF (updF (encF eW 0#16 l6) (((x3 + i5)).toNat) 0 [.b16 (l6.getD (((x3 + i8)).toNat) 0#16)]) (((x3 + i8)).toNat) 0 [.b16 (l6.getD (((x3 + i5)).toNat) 0#16)]))], [2000], 0⟩ ((-9223372036854775808 ≤ (x3 + i5) ∧ (x3 + i5) ≤ 9223372036854775807) ∧ (-9223372036854775808 ≤ (x3 + i8) ∧ (x3 + i8) ≤ 9223372036854775807) ∧ (-9223372036854775808 ≤ (x3 + i8) ∧ (x3 + i8) ≤ 9223372036854775807) ∧ (0 ≤ (x3 + i8) ∧ (x3 + i8) < (((l6).length : Nat) : Int)) ∧ ((((x3 + i8)).toNat) < (l6).length) ∧ (-9223372036854775808 ≤ (x3 + i5) ∧ (x3 + i5) ≤ 9223372036854775807) ∧ (0 ≤ (x3 + i5) ∧ (x3 + i5) < (((l6).length : Nat) : Int)) ∧ ((((x3 + i5)).toNat) < (l6).length) ∧ (0 ≤ (x3 + i5) ∧ (x3 + i5) < (((l6).length : Nat) : Int)) ∧ ((((x3 + i5)).toNat) < (l6).length) ∧ (0 ≤ (x3 + i8) ∧ (x3 + i8) < (((l6).length : Nat) : Int)) ∧ ((((x3 + i8)).toNat) < (l6).length) ∧ True) Tryd_mixed (by kernel_rfl) ⟨ob33, ob34, ob35, ob36, ob37, ob38, ob39, ob40, ob41, ob42, ob43, ob44, trivial⟩ ?_
        refine thenQ_normal ?_
        refine AWp.le (Le.mk (s := ⟨82, [(0, .own 2000), (2, .int .i64 x2), (3, .int .i64 x3), (4, .fn (.func 38) []), (11, .int .i64 i8)], [(2000, .rows 28 1 (l6).length (updF (updF (encF eW 0#16 l6) (((x3 + i5)).toNat) 0 [.b16 (l6.getD (((x3 + i8)).toNat) 0#16)]) (((x3 + i8)).toNat) 0 [.b16 (l6.getD (((x3 + i5)).toNat) 0#16)]))], [2000], 0⟩) (s' := ⟨82, [(0, .own 2000), (2, .int .i64 x2), (3, .int .i64 x3), (4, .fn (.func 38) []), (11, .int .i64 i8)], [(2000, bL 28 1 eW 0#16 ((l6.set (((x3 + i5)).toNat) (l6.getD (((x3 + i8)).toNat) 0#16)).set (((x3 + i8)).toNat) (l6.getD (((x3 + i5)).toNat) 0#16)))], [2000], 0⟩) rfl rfl ⟨.refl _, .refl _, .refl _, .refl _, .refl _, trivial⟩ ⟨⟨_, rfl, (BLe.of (RL.set (l6.getD (((x3 + i5)).toNat) 0#16) (RL.set (l6.getD (((x3 + i8)).toNat) 0#16) (RL.self _) (by intro j hj; match j, hj with | 0, _ => rfl)) (by intro j hj; match j, hj with | 0, _ => rfl)))⟩, trivial⟩) ?_
        refine AWp.regC [] [] [0, 2, 3, 4, 10] [2000] ⟨82, [(0, .own 2000), (2, .int .i64 x2), (3, .int .i64 x3), (4, .fn (.func 38) []), (10, .int .i64 i8)], [(2000, bL 28 1 eW 0#16 ((l6.set (((x3 + i5)).toNat) (l6.getD (((x3 + i8)).toNat) 0#16)).set (((x3 + i8)).toNat) (l6.getD (((x3 + i5)).toNat) 0#16)))], [2000], 0⟩ (True) Tryd_mixed (by kernel_rfl) trivial ?_
        refine blockQ_normal ?_
        rw [hC0] at h
        exact loopQ_normal (_, i8, ((l6.set (((x3 + i5)).toNat) (l6.getD (((x3 + i8)).toNat) 0#16)).set (((x3 + i8)).toNat) (l6.getD (((x3 + i5)).toNat) 0#16))) (Le.mk (s := ⟨82, [(0, .own 2000), (2, .int .i64 x2), (3, .int .i64 x3), (4, .fn (.func 38) []), (10, .int .i64 i8)], [(2000, bL 28 1 eW 0#16 ((l6.set (((x3 + i5)).toNat) (l6.getD (((x3 + i8)).toNat) 0#16)).set (((x3 + i8)).toNat) (l6.getD (((x3 + i5)).toNat) 0#16)))], [2000], 0⟩) (s' := ⟨82, [(0, .own 2000), (2, .int .i64 x2), (3, .int .i64 x3), (4, .fn (.func 38) []), (10, .int .i64 i8)], [(2000, bL 28 1 eW 0#16 ((l6.set (((x3 + i5)).toNat) (l6.getD (((x3 + i8)).toNat) 0#16)).set (((x3 + i8)).toNat) (l6.getD (((x3 + i5)).toNat) 0#16)))], [2000], 0⟩) rfl rfl ⟨.refl _, .refl _, .refl _, .refl _, .refl _, trivial⟩ ⟨⟨_, rfl, .refl _⟩, trivial⟩) h (Nat.lt_succ_self _)
def f97_L0 (x1 : Int) (x2 : Int) (K1 : (List (BitVec 16)) → Option (List (BitVec 16))) : Nat → (Int × List (BitVec 16)) → Option (List (BitVec 16))
  | 0, _ => none
  | k + 1, (i4, l5) =>
    if (decide (i4 ≥ (0 : Int))) then (
    (f110 i4 (x2 - x1) x1 l5).bind fun (r6 : List (BitVec 16)) =>
    chk (-9223372036854775808 ≤ (i4 - (1 : Int)) ∧ (i4 - (1 : Int)) ≤ 9223372036854775807) <|
    (f97_L0 x1 x2 K1 k) ((i4 - (1 : Int)), r6)
    ) else (
    K1 l5
    )
def f97_L1 (x1 : Int) : Nat → (Int × List (BitVec 16)) → Option (List (BitVec 16))
  | 0, _ => none
  | k + 1, (i8, l9) =>
    if (decide (i8 ≥ (0 : Int))) then (
    chk (-9223372036854775808 ≤ (x1 + i8) ∧ (x1 + i8) ≤ 9223372036854775807) <|
    chk (-9223372036854775808 ≤ (x1 + i8) ∧ (x1 + i8) ≤ 9223372036854775807) <|
    chk (0 ≤ (x1 + i8) ∧ (x1 + i8) < (((l9).length : Nat) : Int)) <|
    chk ((((x1 + i8)).toNat) < (l9).length) <|
    chk (0 ≤ x1 ∧ x1 < (((l9).length : Nat) : Int)) <|
    chk (((x1).toNat) < (l9).length) <|
    chk (0 ≤ x1 ∧ x1 < (((l9).length : Nat) : Int)) <|
    chk (((x1).toNat) < (l9).length) <|
    chk (0 ≤ (x1 + i8) ∧ (x1 + i8) < (((l9).length : Nat) : Int)) <|
    chk ((((x1 + i8)).toNat) < (l9).length) <|
    (f110 (0 : Int) i8 x1 ((l9.set ((x1).toNat) (l9.getD (((x1 + i8)).toNat) 0#16)).set (((x1 + i8)).toNat) (l9.getD ((x1).toNat) 0#16))).bind fun (r10 : List (BitVec 16)) =>
    chk (-9223372036854775808 ≤ (i8 - (1 : Int)) ∧ (i8 - (1 : Int)) ≤ 9223372036854775807) <|
    (f97_L1 x1 k) ((i8 - (1 : Int)), r10)
    ) else (
    some l9
    )
def f97 (x1 : Int) (x2 : Int) (x3 : List (BitVec 16)) : Option (List (BitVec 16)) :=
  chk (-9223372036854775808 ≤ (x2 - x1) ∧ (x2 - x1) ≤ 9223372036854775807) <|
  jn (fun (l7 : List (BitVec 16)) =>
  chk (-9223372036854775808 ≤ ((x2 - x1) - (1 : Int)) ∧ ((x2 - x1) - (1 : Int)) ≤ 9223372036854775807) <|
  f97_L1 x1 FUEL (((x2 - x1) - (1 : Int)), l7)
  ) fun (K1 : (List (BitVec 16)) → Option (List (BitVec 16))) =>
  chk (-9223372036854775808 ≤ ((x2 - x1) - (1 : Int)) ∧ ((x2 - x1) - (1 : Int)) ≤ 9223372036854775807) <|
  chk (0 ≤ ((x2 - x1) - (1 : Int)) ∧ 1 ≤ (2 : Int) ∧ -9223372036854775808 ≤ (((x2 - x1) - (1 : Int)) / (2 : Int)) ∧ (((x2 - x1) - (1 : Int)) / (2 : Int)) ≤ 9223372036854775807) <|
  f97_L0 x1 x2 K1 FUEL ((((x2 - x1) - (1 : Int)) / (2 : Int)), x3)
set_option maxRecDepth 100000 in
theorem f97_ok  (x1 : Int) (x2 : Int) (x3 : List (BitVec 16)) (r : List (BitVec 16)) (h : f97 x1 x2 x3 = some r)  : Spec1 Tryd.prog 97 [] [2000] [(2000, bL 28 1 eW 0#16 x3)] [.own 2000, .int .i64 x1, .int .i64 x2, .fn (.func 38) []] (.tup []) [(2000, bL 28 1 eW 0#16 r)] := by
  unfold f97 at h
  refine Spec1.body 0 _ _ Tryd.func97 rfl Tryd.ntmps97 rfl rfl ?_
  refine AWp.seq ?_
  refine AWp.regC [] [] [0, 1, 2, 3, 8] [2000] ⟨60, [(0, .own 2000), (1, .int .i64 x1), (2, .int .i64 x2), (3, .fn (.func 38) []), (8, .int .i64 x1)], [(2000, bL 28 1 eW 0#16 x3)], [2000], 0⟩ (True) Tryd_mixed (by kernel_rfl) trivial ?_
  refine thenQ_normal ?_
  refine AWp.seq ?_
  refine AWp.regC [] [] [0, 1, 2, 3, 8, 9] [2000] ⟨60, [(0, .own 2000), (1, .int .i64 x1), (2, .int .i64 x2), (3, .fn (.func 38) []), (8, .int .i64 x1), (9, .int .i64 (0 : Int))], [(2000, bL 28 1 eW 0#16 x3)], [2000], 0⟩ (True) Tryd_mixed (by kernel_rfl) trivial ?_
  refine thenQ_normal ?_
  refine AWp.seq ?_
  obtain ⟨ob0, h⟩ := chk_some h
  refine AWp.regC [] [] [0, 3, 8, 9, 10] [2000] ⟨60, [(0, .own 2000), (3, .fn (.func 38) []), (8, .int .i64 x1), (9, .int .i64 (0 : Int)), (10, .int .i64 (x2 - x1))], [(2000, bL 28 1 eW 0#16 x3)], [2000], 0⟩ ((-9223372036854775808 ≤ (x2 - x1) ∧ (x2 - x1) ≤ 9223372036854775807) ∧ True) Tryd_mixed (by kernel_rfl) ⟨ob0, trivial⟩ ?_
  refine thenQ_normal ?_
  obtain ⟨K1, hK1, h⟩ := jn_some h
  refine AWp.join (α := List (BitVec 16)) (fun (l7 : List (BitVec 16)) => ⟨60, [(0, .own 2000), (3, .fn (.func 38) []), (8, .int .i64 x1), (9, .int .i64 (0 : Int)), (10, .int .i64 (x2 - x1))], [(2000, bL 28 1 eW 0#16 l7)], [2000], 0⟩) (fun x => K1 x = some r) ?_ ?_
  ·
    refine AWp.seq ?_
    obtain ⟨ob1, h⟩ := chk_some h
    obtain ⟨ob2, h⟩ := chk_some h
    refine AWp.regC [] [] [0, 3, 8, 9, 10, 11] [2000] ⟨60, [(0, .own 2000), (3, .fn (.func 38) []), (8, .int .i64 x1), (9, .int .i64 (0 : Int)), (10, .int .i64 (x2 - x1)), (11, .int .i64 (((x2 - x1) - (1 : Int)) / (2 : Int)))], [(2000, bL 28 1 eW 0#16 x3)], [2000], 0⟩ ((-9223372036854775808 ≤ ((x2 - x1) - (1 : Int)) ∧ ((x2 - x1) - (1 : Int)) ≤ 9223372036854775807) ∧ (0 ≤ ((x2 - x1) - (1 : Int)) ∧ 1 ≤ (2 : Int) ∧ -9223372036854775808 ≤ (((x2 - x1) - (1 : Int)) / (2 : Int)) ∧ (((x2 - x1) - (1 : Int)) / (2 : Int)) ≤ 9223372036854775807) ∧ True) Tryd_mixed (by kernel_rfl) ⟨ob1, ob2, trivial⟩ ?_
    refine thenQ_normal ?_
    refine AWp.block ?_
    refine AWp.loopL (α := Nat × (Int × List (BitVec 16))) (fun x => match x with | (_, i4, l5) => ⟨60, [(0, .own 2000), (3, .fn (.func 38) []), (8, .int .i64 x1), (9, .int .i64 (0 : Int)), (10, .int .i64 (x2 - x1)), (11, .int .i64 i4)], [(2000, bL 28 1 eW 0#16 l5)], [2000], 0⟩) (fun x => f97_L0 x1 x2 K1 x.1 x.2 = some r) (fun x => x.1) (FUEL, (((x2 - x1) - (1 : Int)) / (2 : Int)), x3) (Le.mk (s := ⟨60, [(0, .own 2000), (3, .fn (.func 38) []), (8, .int .i64 x1), (9, .int .i64 (0 : Int)), (10, .int .i64 (x2 - x1)), (11, .int .i64 (((x2 - x1) - (1 : Int)) / (2 : Int)))], [(2000, bL 28 1 eW 0#16 x3)], [2000], 0⟩) (s' := ⟨60, [(0, .own 2000), (3, .fn (.func 38) []), (8, .int .i64 x1), (9, .int .i64 (0 : Int)), (10, .int .i64 (x2 - x1)), (11, .int .i64 (((x2 - x1) - (1 : Int)) / (2 : Int)))], [(2000, bL 28 1 eW 0#16 x3)], [2000], 0⟩) rfl rfl ⟨.refl _, .refl _, .refl _, .refl _, .refl _, .refl _, trivial⟩ ⟨⟨_, rfl, .refl _⟩, trivial⟩) h ?_
    rintro ⟨k0, i4, l5⟩ h
    cases k0 with
    | zero => exact nomatch (show (none : Option (List (BitVec 16))) = some r from h)
    | succ k0 =>
    obtain ⟨C0, hC0⟩ : ∃ C, C = f97_L0 x1 x2 K1 k0 := ⟨_, rfl⟩
    replace h := (f97_L0.eq_2 ..).symm.trans h
    try rw [← hC0] at h
    refine AWp.seq ?_
    refine AWp.seq ?_
    refine AWp.regC [] [] [0, 3, 8, 9, 10, 11, 21] [2000] ⟨60, [(0, .own 2000), (3, .fn (.func 38) []), (8, .int .i64 x1), (9, .int .i64 (0 : Int)), (10, .int .i64 (x2 - x1)), (11, .int .i64 i4), (21, .bool (decide (i4 ≥ (0 : Int))))], [(2000, bL 28 1 eW 0#16 l5)], [2000], 0⟩ (True) Tryd_mixed (by kernel_rfl) trivial ?_
    refine thenQ_normal ?_
    refine AWp.cond (b := (decide (i4 ≥ (0 : Int)))) (by kernel_rfl) (fun hc1 => ?_) (fun hc1 => ?_)
    ·
      replace h := ite_tb hc1 h
      refine AWp.skip ?_
      refine thenQ_normal ?_
      refine AWp.seq ?_
      refine AWp.block ?_
      obtain ⟨r6, hr6, h⟩ := bind_ok h
      refine AWp.regC [] [(5, ⟨[.own 2000, .int .i64 i4, .int .i64 (x2 - x1), .int .i64 x1, .fn (.func 38) []], [2000], [2000], [(2000, bL 28 1 eW 0#16 r6)], .tup [], [], [], []⟩)] [0, 3, 8, 9, 10, 11] [2000] ⟨60, [(0, .own 2000), (3, .fn (.func 38) []), (8, .int .i64 x1), (9, .int .i64 (0 : Int)), (10, .int .i64 (x2 - x1)), (11, .int .i64 i4)], [(2000, bL 28 1 eW 0#16 r6)], [2000], 0⟩ ((callP Tryd.prog true 110 [] [2000] [(2000, bL 28 1 eW 0#16 l5)] [] [] [.own 2000, .int .i64 i4, .int .i64 (x2 - x1), .int .i64 x1, .fn (.func 38) []] [.own 2000, .int .i64 i4, .int .i64 (x2 - x1), .int .i64 x1, .fn (.func 38) []] (.tup []) [(2000, bL 28 1 eW 0#16 r6)]) ∧ True) Tryd_mixed (by kernel_rfl) ⟨⟨fun _ => (f110_ok i4 (x2 - x1) x1 l5 r6 hr6), fun _ => ⟨.refl _, .refl _, .refl _, .refl _, .refl _, trivial⟩, .inl rfl⟩, trivial⟩ ?_
      refine blockQ_normal ?_
      refine thenQ_normal ?_
      obtain ⟨ob3, h⟩ := chk_some h
      refine AWp.regC [] [] [0, 3, 8, 9, 10, 11] [2000] ⟨60, [(0, .own 2000), (3, .fn (.func 38) []), (8, .int .i64 x1), (9, .int .i64 (0 : Int)), (10, .int .i64 (x2 - x1)), (11, .int .i64 (i4 - (1 : Int)))], [(2000, bL 28 1 eW 0#16 r6)], [2000], 0⟩ ((-9223372036854775808 ≤ (i4 - (1 : Int)) ∧ (i4 - (1 : Int)) ≤ 9223372036854775807) ∧ True) Tryd_mixed (by kernel_rfl) ⟨ob3, trivial⟩ ?_
      rw [hC0] at h
      exact loopQ_normal (_, (i4 - (1 : Int)), r6) (Le.mk (s := ⟨60, [(0, .own 2000), (3, .fn (.func 38) []), (8, .int .i64 x1), (9, .int .i64 (0 : Int)), (10, .int .i64 (x2 - x1)), (11, .int .i64 (i4 - (1 : Int)))], [(2000, bL 28 1 eW 0#16 r6)], [2000], 0⟩) (s' := ⟨60, [(0, .own 2000), (3, .fn (.func 38) []), (8, .int .i64 x1), (9, .int .i64 (0 : Int)), (10, .int .i64 (x2 - x1)), (11, .int .i64 (i4 - (1 : Int)))], [(2000, bL 28 1 eW 0#16 r6)], [2000], 0⟩) rfl rfl ⟨.refl _, .refl _, .refl _, .refl _, .refl _, .refl _, trivial⟩ ⟨⟨_, rfl, .refl _⟩, trivial⟩) h (Nat.lt_succ_self _)
    ·
      replace h := ite_fb hc1 h
      refine AWp.exit ?_
      refine thenQ_exit ?_
      refine thenQ_exit ?_
      refine blockQ_same ?_
      exact joinQ_normal (l5) (Le.mk (s := ⟨60, [(0, .own 2000), (3, .fn (.func 38) []), (8, .int .i64 x1), (9, .int .i64 (0 : Int)), (10, .int .i64 (x2 - x1)), (11, .int .i64 i4), (21, .bool (decide (i4 ≥ (0 : Int))))], [(2000, bL 28 1 eW 0#16 l5)], [2000], 0⟩) (s' := ⟨60, [(0, .own 2000), (3, .fn (.func 38) []), (8, .int .i64 x1), (9, .int .i64 (0 : Int)), (10, .int .i64 (x2 - x1))], [(2000, bL 28 1 eW 0#16 l5)], [2000], 0⟩) rfl rfl ⟨.refl _, .refl _, .refl _, .refl _, .refl _, trivial⟩ ⟨⟨_, rfl, .refl _⟩, trivial⟩) h
  ·
    rintro l7 h
    replace h := (congrFun hK1 _).symm.trans h
    refine AWp.seq ?_
    obtain ⟨ob4, h⟩ := chk_some h
    refine AWp.regC [] [] [0, 3, 8, 9, 12] [2000] ⟨60, [(0, .own 2000), (3, .fn (.func 38) []), (8, .int .i64 x1), (9, .int .i64 (0 : Int)), (12, .int .i64 ((x2 - x1) - (1 : Int)))], [(2000, bL 28 1 eW 0#16 l7)], [2000], 0⟩ ((-9223372036854775808 ≤ ((x2 - x1) - (1 : Int)) ∧ ((x2 - x1) - (1 : Int)) ≤ 9223372036854775807) ∧ True) Tryd_mixed (by kernel_rfl) ⟨ob4, trivial⟩ ?_
    refine thenQ_normal ?_
    refine AWp.block ?_
    refine AWp.loopL (α := Nat × (Int × List (BitVec 16))) (fun x => match x with | (_, i8, l9) => ⟨60, [(0, .own 2000), (3, .fn (.func 38) []), (8, .int .i64 x1), (9, .int .i64 (0 : Int)), (12, .int .i64 i8)], [(2000, bL 28 1 eW 0#16 l9)], [2000], 0⟩) (fun x => f97_L1 x1 x.1 x.2 = some r) (fun x => x.1) (FUEL, ((x2 - x1) - (1 : Int)), l7) (Le.mk (s := ⟨60, [(0, .own 2000), (3, .fn (.func 38) []), (8, .int .i64 x1), (9, .int .i64 (0 : Int)), (12, .int .i64 ((x2 - x1) - (1 : Int)))], [(2000, bL 28 1 eW 0#16 l7)], [2000], 0⟩) (s' := ⟨60, [(0, .own 2000), (3, .fn (.func 38) []), (8, .int .i64 x1), (9, .int .i64 (0 : Int)), (12, .int .i64 ((x2 - x1) - (1 : Int)))], [(2000, bL 28 1 eW 0#16 l7)], [2000], 0⟩) rfl rfl ⟨.refl _, .refl _, .refl _, .refl _, .refl _, trivial⟩ ⟨⟨_, rfl, .refl _⟩, trivial⟩) h ?_
    rintro ⟨k1, i8, l9⟩ h
    cases k1 with
    | zero => exact nomatch (show (none : Option (List (BitVec 16))) = some r from h)
    | succ k1 =>
    obtain ⟨C1, hC1⟩ : ∃ C, C = f97_L1 x1 k1 := ⟨_, rfl⟩
    replace h := (f97_L1.eq_2 ..).symm.trans h
    try rw [← hC1] at h
    refine AWp.seq ?_
    refine AWp.seq ?_
    refine AWp.regC [] [] [0, 3, 8, 9, 12, 33] [2000] ⟨60, [(0, .own 2000), (3, .fn (.func 38) []), (8, .int .i64 x1), (9, .int .i64 (0 : Int)), (12, .int .i64 i8), (33, .bool (decide (i8 ≥ (0 : Int))))], [(2000, bL 28 1 eW 0#16 l9)], [2000], 0⟩ (True) Tryd_mixed (by kernel_rfl) trivial ?_
    refine thenQ_normal ?_
    refine AWp.cond (b := (decide (i8 ≥ (0 : Int)))) (by kernel_rfl) (fun hc2 => ?_) (fun hc2 => ?_)
    ·
      replace h := ite_tb hc2 h
      refine AWp.skip ?_
      refine thenQ_normal ?_
      refine AWp.seq ?_
      refine AWp.block ?_
      refine AWp.seq ?_
      obtain ⟨ob5, h⟩ := chk_some h
      obtain ⟨ob6, h⟩ := chk_some h
      obtain ⟨ob7, h⟩ := chk_some h
      obtain ⟨ob8, h⟩ := chk_some h
      obtain ⟨ob9, h⟩ := chk_some h
      obtain ⟨ob10, h⟩ := chk_some h
      obtain ⟨ob11, h⟩ := chk_some h
      obtain ⟨ob12, h⟩ := chk_some h
      obtain ⟨ob13, h⟩ := chk_some h
      obtain ⟨ob14, h⟩ := chk_some h
      refine AWp.regC [] [] [0, 3, 8, 9, 12] [2000] ⟨60, [(0, .own 2000), (3, .fn (.func 38) []), (8, .int .i64 x1), (9, .int .i64 (0 : Int)), (12, .int .i64 i8)], [(2000, .rows 28 1 (l9).length (updF (updF (encF eW 0#16 l9) ((x1).toNat) 0 [.b16 (l9.getD (((x1 + i8)).toNat) 0#16)]) (((x1 + i8)).toNat) 0 [.b16 (l9.getD ((x1).toNat) 0#16)]))], [2000], 0⟩ ((-9223372036854775808 ≤ (x1 + i8) ∧ (x1 + i8) ≤ 9223372036854775807) ∧ (-9223372036854775808 ≤ (x1 + i8) ∧ (x1 + i8) ≤ 9223372036854775807) ∧ (0 ≤ (x1 + i8) ∧ (x1 + i8) < (((l9).length : Nat) : Int)) ∧ ((((x1 + i8)).toNat) < (l9).length) ∧ (0 ≤ x1 ∧ x1 < (((l9).length : Nat) : Int)) ∧ (((x1).toNat) < (l9).length) ∧ (0 ≤ x1 ∧ x1 < (((l9).length : Nat) : Int)) ∧ (((x1).toNat) < (l9).length) ∧ (0 ≤ (x1 + i8) ∧ (x1 + i8) < (((l9).length : Nat) : Int)) ∧ ((((x1 + i8)).toNat) < (l9).length) ∧ True) Tryd_mixed (by kernel_rfl) ⟨ob5, ob6, ob7, ob8, ob9, ob10, ob11, ob12, ob13, ob14, trivial⟩ ?_
      refine thenQ_normal ?_
      refine AWp.le (Le.mk (s := ⟨60, [(0, .own 2000), (3, .fn (.func 38) []), (8, .int .i64 x1), (9, .int .i64 (0 : Int)), (12, .int .i64 i8)], [(2000, .rows 28 1 (l9).length (updF (updF (encF eW 0#16 l9) ((x1).toNat) 0 [.b16 (l9.getD (((x1 + i8)).toNat) 0#16)]) (((x1 + i8)).toNat) 0 [.b16 (l9.getD ((x1).toNat) 0#16)]))], [2000], 0⟩) (s' := ⟨60, [(0, .own 2000), (3, .fn (.func 38) []), (8, .int .i64 x1), (9, .int .i64 (0 : Int)), (12, .int .i64 i8)], [(2000, bL 28 1 eW 0#16 ((l9.set ((x1).toNat) (l9.getD (((x1 + i8)).toNat) 0#16)).set (((x1 + i8)).toNat) (l9.getD ((x1).toNat) 0#16)))], [2000], 0⟩) rfl rfl ⟨.refl _, .refl _, .refl _, .refl _, .refl _, trivial⟩ ⟨⟨_, rfl, (BLe.of (RL.set (l9.getD ((x1).toNat) 0#16) (RL.set (l9.getD (((x1 + i8)).toNat) 0#16) (RL.self _) (by intro j hj; match j, hj with | 0, _ => rfl)) (by intro j hj; match j, hj with | 0, _ => rfl)))⟩, trivial⟩) ?_
      obtain ⟨r10, hr10, h⟩ := bind_ok h
      refine AWp.regC [] [(5, ⟨[.own 2000, .int .i64 (0 : Int), .int .i64 i8, .int .i64 x1, .fn (.func 38) []], [2000], [2000], [(2000, bL 28 1 eW 0#16 r10)], .tup [], [], [], []⟩)] [0, 3, 8, 9, 12] [2000] ⟨60, [(0, .own 2000), (3, .fn (.func 38) []), (8, .int .i64 x1), (9, .int .i64 (0 : Int)), (12, .int .i64 i8)], [(2000, bL 28 1 eW 0#16 r10)], [2000], 0⟩ ((callP Tryd.prog true 110 [] [2000] [(2000, bL 28 1 eW 0#16 ((l9.set ((x1).toNat) (l9.getD (((x1 + i8)).toNat) 0#16)).set (((x1 + i8)).toNat) (l9.getD ((x1).toNat) 0#16)))] [] [] [.own 2000, .int .i64 (0 : Int), .int .i64 i8, .int .i64 x1, .fn (.func 38) []] [.own 2000, .int .i64 (0 : Int), .int .i64 i8, .int .i64 x1, .fn (.func 38) []] (.tup []) [(2000, bL 28 1 eW 0#16 r10)]) ∧ True) Tryd_mixed (by kernel_rfl) ⟨⟨fun _ => (f110_ok (0 : Int) i8 x1 ((l9.set ((x1).toNat) (l9.getD (((x1 + i8)).toNat) 0#16)).set (((x1 + i8)).toNat) (l9.getD ((x1).toNat) 0#16)) r10 hr10), fun _ => ⟨.refl _, .refl _, .refl _, .refl _, .refl _, trivial⟩, .inl rfl⟩, trivial⟩ ?_
      refine blockQ_normal ?_
      refine thenQ_normal ?_
      obtain ⟨ob15, h⟩ := chk_some h
      refine AWp.regC [] [] [0, 3, 8, 9, 12] [2000] ⟨60, [(0, .own 2000), (3, .fn (.func 38) []), (8, .int .i64 x1), (9, .int .i64 (0 : Int)), (12, .int .i64 (i8 - (1 : Int)))], [(2000, bL 28 1 eW 0#16 r10)], [2000], 0⟩ ((-9223372036854775808 ≤ (i8 - (1 : Int)) ∧ (i8 - (1 : Int)) ≤ 9223372036854775807) ∧ True) Tryd_mixed (by kernel_rfl) ⟨ob15, trivial⟩ ?_
      rw [hC1] at h
      exact loopQ_normal (_, (i8 - (1 : Int)), r10) (Le.mk (s := ⟨60, [(0, .own 2000), (3, .fn (.func 38) []), (8, .int .i64 x1), (9, .int .i64 (0 : Int)), (12, .int .i64 (i8 - (1 : Int)))], [(2000, bL 28 1 eW 0#16 r10)], [2000], 0⟩) (s' := ⟨60, [(0, .own 2000), (3, .fn (.func 38) []), (8, .int .i64 x1), (9, .int .i64 (0 : Int)), (12, .int .i64 (i8 - (1 : Int)))], [(2000, bL 28 1 eW 0#16 r10)], [2000], 0⟩) rfl rfl ⟨.refl _, .refl _, .refl _, .refl _, .refl _, trivial⟩ ⟨⟨_, rfl, .refl _⟩, trivial⟩) h (Nat.lt_succ_self _)
    ·
      replace h := ite_fb hc2 h
      refine AWp.exit ?_
      refine thenQ_exit ?_
      refine thenQ_exit ?_
      refine blockQ_same ?_
      have hret := Option.some.inj h
      subst hret
      exact bodyQ_le (Le.mk (s := ⟨60, [(0, .own 2000), (3, .fn (.func 38) []), (8, .int .i64 x1), (9, .int .i64 (0 : Int)), (12, .int .i64 i8), (33, .bool (decide (i8 ≥ (0 : Int))))], [(2000, bL 28 1 eW 0#16 l9)], [2000], 0⟩) (s' := ⟨60, [], [(2000, bL 28 1 eW 0#16 l9)], [2000], 0⟩) rfl rfl trivial ⟨⟨_, rfl, .refl _⟩, trivial⟩) (bodyQ_normal _ rfl ⟨rfl, rfl⟩ rfl)
def f111 (x1 : Int) : Option Int :=
  (f92 x1).bind fun (r2 : Int) =>
  chk (0 ≤ x1 ∧ x1 ≤ 18446744073709551615) <|
  chk (0 ≤ r2 ∧ (r2).toNat ≤ IntKind.bits .u64 ∧ 0 ≤ ((1 : Int) * 2 ^ ((r2).toNat)) ∧ ((1 : Int) * 2 ^ ((r2).toNat)) ≤ 18446744073709551615) <|
  some ((1 : Int) * 2 ^ ((r2).toNat))
set_option maxRecDepth 100000 in
theorem f111_ok  (x1 : Int) (r : Int) (h : f111 x1 = some r)  : Spec1 Tryd.prog 111 [] [] [] [.int .i64 x1] (.int .u64 r) [] := by
  unfold f111 at h
  refine Spec1.body 0 _ _ Tryd.func111 rfl Tryd.ntmps111 rfl rfl ?_
  refine AWp.seq ?_
  refine AWp.regC [] [] [0] [] ⟨7, [(0, .int .i64 x1)], [], [], 0⟩ (True) Tryd_mixed (by kernel_rfl) trivial ?_
  refine thenQ_normal ?_
  refine AWp.seq ?_
  obtain ⟨r2, hr2, h⟩ := bind_ok h
  obtain ⟨ob0, h⟩ := chk_some h
  obtain ⟨ob1, h⟩ := chk_some h
  refine AWp.regC [] [(2, ⟨[.int .u64 x1], [], [], [], .int .i64 r2, [], [], []⟩)] [2] [] ⟨7, [(2, .int .u64 ((1 : Int) * 2 ^ ((r2).toNat)))], [], [], 0⟩ ((0 ≤ x1 ∧ x1 ≤ 18446744073709551615) ∧ (callP Tryd.prog true 92 [] [] [] [] [] [.int .u64 x1] [.int .u64 x1] (.int .i64 r2) []) ∧ (0 ≤ r2 ∧ (r2).toNat ≤ IntKind.bits .u64 ∧ 0 ≤ ((1 : Int) * 2 ^ ((r2).toNat)) ∧ ((1 : Int) * 2 ^ ((r2).toNat)) ≤ 18446744073709551615) ∧ True) Tryd_mixed (by kernel_rfl) ⟨ob0, ⟨fun _ => (f92_ok x1 r2 hr2), fun _ => ⟨.refl _, trivial⟩, .inl rfl⟩, ob1, trivial⟩ ?_
  refine thenQ_normal ?_
  have hret := Option.some.inj h
  subst hret
  refine AWp.le (Le.mk (s := ⟨7, [(2, .int .u64 ((1 : Int) * 2 ^ ((r2).toNat)))], [], [], 0⟩) (s' := ⟨7, [(2, .int .u64 ((1 : Int) * 2 ^ ((r2).toNat)))], [], [], 0⟩) rfl rfl ⟨.refl _, trivial⟩ trivial) ?_
  refine AWp.ret ?_
  exact bodyQ_ret _ rfl ⟨rfl, rfl⟩ rfl
def f112 (x1 : Int) : Option (Int × Int) :=
  chk (13 ≤ IntKind.bits .u64 ∧ 0 ≤ (x1 * 2 ^ 13) ∧ (x1 * 2 ^ 13) ≤ 18446744073709551615) <|
  chk (7 ≤ IntKind.bits .u64) <|
  chk (17 ≤ IntKind.bits .u64 ∧ 0 ≤ ((bitsI .xor .u64 (bitsI .xor .u64 x1 (x1 * 2 ^ 13)) ((bitsI .xor .u64 x1 (x1 * 2 ^ 13)) / 2 ^ 7)) * 2 ^ 17) ∧ ((bitsI .xor .u64 (bitsI .xor .u64 x1 (x1 * 2 ^ 13)) ((bitsI .xor .u64 x1 (x1 * 2 ^ 13)) / 2 ^ 7)) * 2 ^ 17) ≤ 18446744073709551615) <|
  some ((bitsI .xor .u64 (bitsI .xor .u64 (bitsI .xor .u64 x1 (x1 * 2 ^ 13)) ((bitsI .xor .u64 x1 (x1 * 2 ^ 13)) / 2 ^ 7)) ((bitsI .xor .u64 (bitsI .xor .u64 x1 (x1 * 2 ^ 13)) ((bitsI .xor .u64 x1 (x1 * 2 ^ 13)) / 2 ^ 7)) * 2 ^ 17)), (bitsI .xor .u64 (bitsI .xor .u64 (bitsI .xor .u64 x1 (x1 * 2 ^ 13)) ((bitsI .xor .u64 x1 (x1 * 2 ^ 13)) / 2 ^ 7)) ((bitsI .xor .u64 (bitsI .xor .u64 x1 (x1 * 2 ^ 13)) ((bitsI .xor .u64 x1 (x1 * 2 ^ 13)) / 2 ^ 7)) * 2 ^ 17)))
set_option maxRecDepth 100000 in
theorem f112_ok  (x1 : Int) (r : Int × Int) (h : f112 x1 = some r)  : Spec1 Tryd.prog 112 [] [2000] [(2000, .cells 117 [.int .u64 x1])] [.ptr 2000 0] (.int .u64 r.1) [(2000, .cells 117 [.int .u64 r.2])] := by
  unfold f112 at h
  refine Spec1.body 0 _ _ Tryd.func112 rfl Tryd.ntmps112 rfl rfl ?_
  refine AWp.seq ?_
  refine AWp.regC [] [] [0] [2000] ⟨33, [(0, .ptr 2000 0)], [(2000, .cells 117 [.int .u64 x1])], [2000], 0⟩ (True) Tryd_mixed (by kernel_rfl) trivial ?_
  refine thenQ_normal ?_
  refine AWp.seq ?_
  obtain ⟨ob0p, h⟩ := chk_some h
  have ob0 : 0 ≤ (13 : Int) ∧ 13 ≤ IntKind.bits .u64 ∧ 0 ≤ (x1 * 2 ^ 13) ∧ (x1 * 2 ^ 13) ≤ 18446744073709551615 := ⟨by omega, ob0p.1, ob0p.2.1, ob0p.2.2⟩
  refine AWp.regC [] [] [0] [2000] ⟨33, [(0, .ptr 2000 0)], [(2000, .cells 117 [.int .u64 (bitsI .xor .u64 x1 (x1 * 2 ^ 13))])], [2000], 0⟩ ((0 ≤ (13 : Int) ∧ 13 ≤ IntKind.bits .u64 ∧ 0 ≤ (x1 * 2 ^ 13) ∧ (x1 * 2 ^ 13) ≤ 18446744073709551615) ∧ (True) ∧ True) Tryd_mixed (by kernel_rfl) ⟨ob0, trivial, trivial⟩ ?_
  refine thenQ_normal ?_
  refine AWp.seq ?_
  obtain ⟨ob1p, h⟩ := chk_some h
  have ob1 : 0 ≤ (7 : Int) ∧ 7 ≤ IntKind.bits .u64 := ⟨by omega, ob1p⟩
  refine AWp.regC [] [] [0] [2000] ⟨33, [(0, .ptr 2000 0)], [(2000, .cells 117 [.int .u64 (bitsI .xor .u64 (bitsI .xor .u64 x1 (x1 * 2 ^ 13)) ((bitsI .xor .u64 x1 (x1 * 2 ^ 13)) / 2 ^ 7))])], [2000], 0⟩ ((0 ≤ (7 : Int) ∧ 7 ≤ IntKind.bits .u64) ∧ (True) ∧ True) Tryd_mixed (by kernel_rfl) ⟨ob1, trivial, trivial⟩ ?_
  refine thenQ_normal ?_
  refine AWp.seq ?_
  obtain ⟨ob2p, h⟩ := chk_some h
  have ob2 : 0 ≤ (17 : Int) ∧ 17 ≤ IntKind.bits .u64 ∧ 0 ≤ ((bitsI .xor .u64 (bitsI .xor .u64 x1 (x1 * 2 ^ 13)) ((bitsI .xor .u64 x1 (x1 * 2 ^ 13)) / 2 ^ 7)) * 2 ^ 17) ∧ ((bitsI .xor .u64 (bitsI .xor .u64 x1 (x1 * 2 ^ 13)) ((bitsI .xor .u64 x1 (x1 * 2 ^ 13)) / 2 ^ 7)) * 2 ^ 17) ≤ 18446744073709551615 := ⟨by omega, ob2p.1, ob2p.2.1, ob2p.2.2⟩
  refine AWp.regC [] [] [0] [2000] ⟨33, [(0, .ptr 2000 0)], [(2000, .cells 117 [.int .u64 (bitsI .xor .u64 (bitsI .xor .u64 (bitsI .xor .u64 x1 (x1 * 2 ^ 13)) ((bitsI .xor .u64 x1 (x1 * 2 ^ 13)) / 2 ^ 7)) ((bitsI .xor .u64 (bitsI .xor .u64 x1 (x1 * 2 ^ 13)) ((bitsI .xor .u64 x1 (x1 * 2 ^ 13)) / 2 ^ 7)) * 2 ^ 17))])], [2000], 0⟩ ((0 ≤ (17 : Int) ∧ 17 ≤ IntKind.bits .u64 ∧ 0 ≤ ((bitsI .xor .u64 (bitsI .xor .u64 x1 (x1 * 2 ^ 13)) ((bitsI .xor .u64 x1 (x1 * 2 ^ 13)) / 2 ^ 7)) * 2 ^ 17) ∧ ((bitsI .xor .u64 (bitsI .xor .u64 x1 (x1 * 2 ^ 13)) ((bitsI .xor .u64 x1 (x1 * 2 ^ 13)) / 2 ^ 7)) * 2 ^ 17) ≤ 18446744073709551615) ∧ (True) ∧ True) Tryd_mixed (by kernel_rfl) ⟨ob2, trivial, trivial⟩ ?_
  refine thenQ_normal ?_
  refine AWp.seq ?_
  refine AWp.regC [] [] [2] [2000] ⟨33, [(2, .int .u64 (bitsI .xor .u64 (bitsI .xor .u64 (bitsI .xor .u64 x1 (x1 * 2 ^ 13)) ((bitsI .xor .u64 x1 (x1 * 2 ^ 13)) / 2 ^ 7)) ((bitsI .xor .u64 (bitsI .xor .u64 x1 (x1 * 2 ^ 13)) ((bitsI .xor .u64 x1 (x1 * 2 ^ 13)) / 2 ^ 7)) * 2 ^ 17)))], [(2000, .cells 117 [.int .u64 (bitsI .xor .u64 (bitsI .xor .u64 (bitsI .xor .u64 x1 (x1 * 2 ^ 13)) ((bitsI .xor .u64 x1 (x1 * 2 ^ 13)) / 2 ^ 7)) ((bitsI .xor .u64 (bitsI .xor .u64 x1 (x1 * 2 ^ 13)) ((bitsI .xor .u64 x1 (x1 * 2 ^ 13)) / 2 ^ 7)) * 2 ^ 17))])], [2000], 0⟩ (True) Tryd_mixed (by kernel_rfl) trivial ?_
  refine thenQ_normal ?_
  have hret := Option.some.inj h
  subst hret
  refine AWp.le (Le.mk (s := ⟨33, [(2, .int .u64 (bitsI .xor .u64 (bitsI .xor .u64 (bitsI .xor .u64 x1 (x1 * 2 ^ 13)) ((bitsI .xor .u64 x1 (x1 * 2 ^ 13)) / 2 ^ 7)) ((bitsI .xor .u64 (bitsI .xor .u64 x1 (x1 * 2 ^ 13)) ((bitsI .xor .u64 x1 (x1 * 2 ^ 13)) / 2 ^ 7)) * 2 ^ 17)))], [(2000, .cells 117 [.int .u64 (bitsI .xor .u64 (bitsI .xor .u64 (bitsI .xor .u64 x1 (x1 * 2 ^ 13)) ((bitsI .xor .u64 x1 (x1 * 2 ^ 13)) / 2 ^ 7)) ((bitsI .xor .u64 (bitsI .xor .u64 x1 (x1 * 2 ^ 13)) ((bitsI .xor .u64 x1 (x1 * 2 ^ 13)) / 2 ^ 7)) * 2 ^ 17))])], [2000], 0⟩) (s' := ⟨33, [(2, .int .u64 (bitsI .xor .u64 (bitsI .xor .u64 (bitsI .xor .u64 x1 (x1 * 2 ^ 13)) ((bitsI .xor .u64 x1 (x1 * 2 ^ 13)) / 2 ^ 7)) ((bitsI .xor .u64 (bitsI .xor .u64 x1 (x1 * 2 ^ 13)) ((bitsI .xor .u64 x1 (x1 * 2 ^ 13)) / 2 ^ 7)) * 2 ^ 17)))], [(2000, .cells 117 [.int .u64 (bitsI .xor .u64 (bitsI .xor .u64 (bitsI .xor .u64 x1 (x1 * 2 ^ 13)) ((bitsI .xor .u64 x1 (x1 * 2 ^ 13)) / 2 ^ 7)) ((bitsI .xor .u64 (bitsI .xor .u64 x1 (x1 * 2 ^ 13)) ((bitsI .xor .u64 x1 (x1 * 2 ^ 13)) / 2 ^ 7)) * 2 ^ 17))])], [2000], 0⟩) rfl rfl ⟨.refl _, trivial⟩ ⟨⟨_, rfl, .refl _⟩, trivial⟩) ?_
  refine AWp.ret ?_
  exact bodyQ_ret _ rfl ⟨rfl, rfl⟩ rfl
def f98_L0 (x1 : Int) (x2 : Int) (r4 : Int) : Nat → (Int × Int × List (BitVec 16)) → Option (List (BitVec 16))
  | 0, _ => none
  | k + 1, (i5, i6, l7) =>
    chk (0 ≤ (x2 - x1) ∧ 1 ≤ (4 : Int) ∧ -9223372036854775808 ≤ ((x2 - x1) / (4 : Int)) ∧ ((x2 - x1) / (4 : Int)) ≤ 9223372036854775807) <|
    chk (-9223372036854775808 ≤ (((x2 - x1) / (4 : Int)) * (2 : Int)) ∧ (((x2 - x1) / (4 : Int)) * (2 : Int)) ≤ 9223372036854775807) <|
    chk (-9223372036854775808 ≤ (x1 + (((x2 - x1) / (4 : Int)) * (2 : Int))) ∧ (x1 + (((x2 - x1) / (4 : Int)) * (2 : Int))) ≤ 9223372036854775807) <|
    chk (-9223372036854775808 ≤ ((x1 + (((x2 - x1) / (4 : Int)) * (2 : Int))) + (1 : Int)) ∧ ((x1 + (((x2 - x1) / (4 : Int)) * (2 : Int))) + (1 : Int)) ≤ 9223372036854775807) <|
    if (decide (i5 ≤ ((x1 + (((x2 - x1) / (4 : Int)) * (2 : Int))) + (1 : Int)))) then (
    (f112 i6).bind fun (r8 : Int × Int) =>
    chk (0 ≤ (r4 - (1 : Int)) ∧ (r4 - (1 : Int)) ≤ 18446744073709551615) <|
    chk (-9223372036854775808 ≤ (bitsI .and .u64 r8.1 (r4 - (1 : Int))) ∧ (bitsI .and .u64 r8.1 (r4 - (1 : Int))) ≤ 9223372036854775807) <|
    jn (fun (i9 : Int) =>
    chk (-9223372036854775808 ≤ (x1 + i9) ∧ (x1 + i9) ≤ 9223372036854775807) <|
    chk (-9223372036854775808 ≤ (x1 + i9) ∧ (x1 + i9) ≤ 9223372036854775807) <|
    chk (0 ≤ (x1 + i9) ∧ (x1 + i9) < (((l7).length : Nat) : Int)) <|
    chk ((((x1 + i9)).toNat) < (l7).length) <|
    chk (0 ≤ i5 ∧ i5 < (((l7).length : Nat) : Int)) <|
    chk (((i5).toNat) < (l7).length) <|
    chk (0 ≤ i5 ∧ i5 < (((l7).length : Nat) : Int)) <|
    chk (((i5).toNat) < (l7).length) <|
    chk (0 ≤ (x1 + i9) ∧ (x1 + i9) < (((l7).length : Nat) : Int)) <|
    chk ((((x1 + i9)).toNat) < (l7).length) <|
    chk (-9223372036854775808 ≤ (i5 + (1 : Int)) ∧ (i5 + (1 : Int)) ≤ 9223372036854775807) <|
    (f98_L0 x1 x2 r4 k) ((i5 + (1 : Int)), r8.2, ((l7.set ((i5).toNat) (l7.getD (((x1 + i9)).toNat) 0#16)).set (((x1 + i9)).toNat) (l7.getD ((i5).toNat) 0#16)))
    ) fun (K1 : Int → Option (List (BitVec 16))) =>
    if (decide ((bitsI .and .u64 r8.1 (r4 - (1 : Int))) ≥ (x2 - x1))) then (
    chk (-9223372036854775808 ≤ ((bitsI .and .u64 r8.1 (r4 - (1 : Int))) - (x2 - x1)) ∧ ((bitsI .and .u64 r8.1 (r4 - (1 : Int))) - (x2 - x1)) ≤ 9223372036854775807) <|
    K1 ((bitsI .and .u64 r8.1 (r4 - (1 : Int))) - (x2 - x1))
    ) else (
    K1 (bitsI .and .u64 r8.1 (r4 - (1 : Int)))
    )
    ) else (
    some l7
    )
def f98 (x1 : Int) (x2 : Int) (x3 : List (BitVec 16)) : Option (List (BitVec 16)) :=
  chk (-9223372036854775808 ≤ (x2 - x1) ∧ (x2 - x1) ≤ 9223372036854775807) <|
  if (decide ((x2 - x1) ≥ (8 : Int))) then (
  chk (0 ≤ (x2 - x1) ∧ (x2 - x1) ≤ 18446744073709551615) <|
  (f111 (x2 - x1)).bind fun (r4 : Int) =>
  chk (0 ≤ (x2 - x1) ∧ 1 ≤ (4 : Int) ∧ -9223372036854775808 ≤ ((x2 - x1) / (4 : Int)) ∧ ((x2 - x1) / (4 : Int)) ≤ 9223372036854775807) <|
  chk (-9223372036854775808 ≤ (((x2 - x1) / (4 : Int)) * (2 : Int)) ∧ (((x2 - x1) / (4 : Int)) * (2 : Int)) ≤ 9223372036854775807) <|
  chk (-9223372036854775808 ≤ (x1 + (((x2 - x1) / (4 : Int)) * (2 : Int))) ∧ (x1 + (((x2 - x1) / (4 : Int)) * (2 : Int))) ≤ 9223372036854775807) <|
  chk (-9223372036854775808 ≤ ((x1 + (((x2 - x1) / (4 : Int)) * (2 : Int))) - (1 : Int)) ∧ ((x1 + (((x2 - x1) / (4 : Int)) * (2 : Int))) - (1 : Int)) ≤ 9223372036854775807) <|
  f98_L0 x1 x2 r4 FUEL (((x1 + (((x2 - x1) / (4 : Int)) * (2 : Int))) - (1 : Int)), (x2 - x1), x3)
  ) else (
  some x3
  )
set_option maxRecDepth 100000 in
theorem f98_ok  (x1 : Int) (x2 : Int) (x3 : List (BitVec 16)) (r : List (BitVec 16)) (h : f98 x1 x2 x3 = some r)  : Spec1 Tryd.prog 98 [] [2000] [(2000, bL 28 1 eW 0#16 x3)] [.own 2000, .int .i64 x1, .int .i64 x2, .fn (.func 38) []] (.tup []) [(2000, bL 28 1 eW 0#16 r)] := by
  unfold f98 at h
  refine Spec1.body 0 _ _ Tryd.func98 rfl Tryd.ntmps98 rfl rfl ?_
  refine AWp.seq ?_
  obtain ⟨ob0, h⟩ := chk_some h
  refine AWp.regC [] [] [0, 1, 8] [2000] ⟨67, [(0, .own 2000), (1, .int .i64 x1), (8, .int .i64 (x2 - x1))], [(2000, bL 28 1 eW 0#16 x3)], [2000], 0⟩ ((-9223372036854775808 ≤ (x2 - x1) ∧ (x2 - x1) ≤ 9223372036854775807) ∧ True) Tryd_mixed (by kernel_rfl) ⟨ob0, trivial⟩ ?_
  refine thenQ_normal ?_
  refine AWp.seq ?_
  refine AWp.regC [] [] [0, 1, 8, 17] [2000] ⟨67, [(0, .own 2000), (1, .int .i64 x1), (8, .int .i64 (x2 - x1)), (17, .bool (decide ((x2 - x1) ≥ (8 : Int))))], [(2000, bL 28 1 eW 0#16 x3)], [2000], 0⟩ (True) Tryd_mixed (by kernel_rfl) trivial ?_
  refine thenQ_normal ?_
  refine AWp.cond (b := (decide ((x2 - x1) ≥ (8 : Int)))) (by kernel_rfl) (fun hc1 => ?_) (fun hc1 => ?_)
  ·
    replace h := ite_tb hc1 h
    refine AWp.seq ?_
    obtain ⟨ob1, h⟩ := chk_some h
    refine AWp.regC [] [] [0, 1, 8, 9] [9, 2000] ⟨67, [(0, .own 2000), (1, .int .i64 x1), (8, .int .i64 (x2 - x1)), (9, .ptr 9 0)], [(9, .cells 117 [.int .u64 (x2 - x1)]), (2000, bL 28 1 eW 0#16 x3)], [2000], 0⟩ ((0 ≤ (x2 - x1) ∧ (x2 - x1) ≤ 18446744073709551615) ∧ (True) ∧ True) Tryd_mixed (by kernel_rfl) ⟨ob1, trivial, trivial⟩ ?_
    refine thenQ_normal ?_
    refine AWp.seq ?_
    obtain ⟨r4, hr4, h⟩ := bind_ok h
    refine AWp.regC [] [(1, ⟨[.int .i64 (x2 - x1)], [], [], [], .int .u64 r4, [], [], []⟩)] [0, 1, 8, 9, 10] [9, 2000] ⟨67, [(0, .own 2000), (1, .int .i64 x1), (8, .int .i64 (x2 - x1)), (9, .ptr 9 0), (10, .int .u64 r4)], [(9, .cells 117 [.int .u64 (x2 - x1)]), (2000, bL 28 1 eW 0#16 x3)], [2000], 0⟩ ((callP Tryd.prog true 111 [] [] [] [] [] [.int .i64 (x2 - x1)] [.int .i64 (x2 - x1)] (.int .u64 r4) []) ∧ True) Tryd_mixed (by kernel_rfl) ⟨⟨fun _ => (f111_ok (x2 - x1) r4 hr4), fun _ => ⟨.refl _, trivial⟩, .inl rfl⟩, trivial⟩ ?_
    refine thenQ_normal ?_
    refine AWp.seq ?_
    obtain ⟨ob2, h⟩ := chk_some h
    obtain ⟨ob3, h⟩ := chk_some h
    obtain ⟨ob4, h⟩ := chk_some h
    obtain ⟨ob5, h⟩ := chk_some h
    refine AWp.regC [] [] [0, 1, 8, 9, 10, 11] [9, 2000] ⟨67, [(0, .own 2000), (1, .int .i64 x1), (8, .int .i64 (x2 - x1)), (9, .ptr 9 0), (10, .int .u64 r4), (11, .int .i64 ((x1 + (((x2 - x1) / (4 : Int)) * (2 : Int))) - (1 : Int)))], [(9, .cells 117 [.int .u64 (x2 - x1)]), (2000, bL 28 1 eW 0#16 x3)], [2000], 0⟩ ((0 ≤ (x2 - x1) ∧ 1 ≤ (4 : Int) ∧ -9223372036854775808 ≤ ((x2 - x1) / (4 : Int)) ∧ ((x2 - x1) / (4 : Int)) ≤ 9223372036854775807) ∧ (-9223372036854775808 ≤ (((x2 - x1) / (4 : Int)) * (2 : Int)) ∧ (((x2 - x1) / (4 : Int)) * (2 : Int)) ≤ 9223372036854775807) ∧ (-9223372036854775808 ≤ (x1 + (((x2 - x1) / (4 : Int)) * (2 : Int))) ∧ (x1 + (((x2 - x1) / (4 : Int)) * (2 : Int))) ≤ 9223372036854775807) ∧ (-9223372036854775808 ≤ ((x1 + (((x2 - x1) / (4 : Int)) * (2 : Int))) - (1 : Int)) ∧ ((x1 + (((x2 - x1) / (4 : Int)) * (2 : Int))) - (1 : Int)) ≤ 9223372036854775807) ∧ True) Tryd_mixed (by kernel_rfl) ⟨ob2, ob3, ob4, ob5, trivial⟩ ?_
    refine thenQ_normal ?_
    refine AWp.block ?_
    refine AWp.loopL (α := Nat × (Int × Int × List (BitVec 16))) (fun x => match x with | (_, i5, i6, l7) => ⟨67, [(0, .own 2000), (1, .int .i64 x1), (8, .int .i64 (x2 - x1)), (9, .ptr 9 0), (10, .int .u64 r4), (11, .int .i64 i5)], [(9, .cells 117 [.int .u64 i6]), (2000, bL 28 1 eW 0#16 l7)], [2000], 0⟩) (fun x => f98_L0 x1 x2 r4 x.1 x.2 = some r) (fun x => x.1) (FUEL, ((x1 + (((x2 - x1) / (4 : Int)) * (2 : Int))) - (1 : Int)), (x2 - x1), x3) (Le.mk (s := ⟨67, [(0, .own 2000), (1, .int .i64 x1), (8, .int .i64 (x2 - x1)), (9, .ptr 9 0), (10, .int .u64 r4), (11, .int .i64 ((x1 + (((x2 - x1) / (4 : Int)) * (2 : Int))) - (1 : Int)))], [(9, .cells 117 [.int .u64 (x2 - x1)]), (2000, bL 28 1 eW 0#16 x3)], [2000], 0⟩) (s' := ⟨67, [(0, .own 2000), (1, .int .i64 x1), (8, .int .i64 (x2 - x1)), (9, .ptr 9 0), (10, .int .u64 r4), (11, .int .i64 ((x1 + (((x2 - x1) / (4 : Int)) * (2 : Int))) - (1 : Int)))], [(9, .cells 117 [.int .u64 (x2 - x1)]), (2000, bL 28 1 eW 0#16 x3)], [2000], 0⟩) rfl rfl ⟨.refl _, .refl _, .refl _, .refl _, .refl _, .refl _, trivial⟩ ⟨⟨_, rfl, .refl _⟩, ⟨_, rfl, .refl _⟩, trivial⟩) h ?_
    rintro ⟨k0, i5, i6, l7⟩ h
    cases k0 with
    | zero => exact nomatch (show (none : Option (List (BitVec 16))) = some r from h)
    | succ k0 =>
    obtain ⟨C0, hC0⟩ : ∃ C, C = f98_L0 x1 x2 r4 k0 := ⟨_, rfl⟩
    replace h := (f98_L0.eq_2 ..).symm.trans h
    try rw [← hC0] at h
    refine AWp.seq ?_
    refine AWp.seq ?_
    obtain ⟨ob6, h⟩ := chk_some h
    obtain ⟨ob7, h⟩ := chk_some h
    obtain ⟨ob8, h⟩ := chk_some h
    obtain ⟨ob9, h⟩ := chk_some h
    refine AWp.regC [] [] [0, 1, 8, 9, 10, 11, 35] [9, 2000] ⟨67, [(0, .own 2000), (1, .int .i64 x1), (8, .int .i64 (x2 - x1)), (9, .ptr 9 0), (10, .int .u64 r4), (11, .int .i64 i5), (35, .bool (decide (i5 ≤ ((x1 + (((x2 - x1) / (4 : Int)) * (2 : Int))) + (1 : Int)))))], [(9, .cells 117 [.int .u64 i6]), (2000, bL 28 1 eW 0#16 l7)], [2000], 0⟩ ((0 ≤ (x2 - x1) ∧ 1 ≤ (4 : Int) ∧ -9223372036854775808 ≤ ((x2 - x1) / (4 : Int)) ∧ ((x2 - x1) / (4 : Int)) ≤ 9223372036854775807) ∧ (-9223372036854775808 ≤ (((x2 - x1) / (4 : Int)) * (2 : Int)) ∧ (((x2 - x1) / (4 : Int)) * (2 : Int)) ≤ 9223372036854775807) ∧ (-9223372036854775808 ≤ (x1 + (((x2 - x1) / (4 : Int)) * (2 : Int))) ∧ (x1 + (((x2 - x1) / (4 : Int)) * (2 : Int))) ≤ 9223372036854775807) ∧ (-9223372036854775808 ≤ ((x1 + (((x2 - x1) / (4 : Int)) * (2 : Int))) + (1 : Int)) ∧ ((x1 + (((x2 - x1) / (4 : Int)) * (2 : Int))) + (1 : Int)) ≤ 9223372036854775807) ∧ True) Tryd_mixed (by kernel_rfl) ⟨ob6, ob7, ob8, ob9, trivial⟩ ?_
    refine thenQ_normal ?_
    refine AWp.cond (b := (decide (i5 ≤ ((x1 + (((x2 - x1) / (4 : Int)) * (2 : Int))) + (1 : Int))))) (by kernel_rfl) (fun hc2 => ?_) (fun hc2 => ?_)
    ·
      replace h := ite_tb hc2 h
      refine AWp.skip ?_
      refine thenQ_normal ?_
      refine AWp.seq ?_
      refine AWp.block ?_
      refine AWp.seq ?_
      obtain ⟨r8, hr8, h⟩ := bind_ok h
      obtain ⟨ob10, h⟩ := chk_some h
      obtain ⟨ob11, h⟩ := chk_some h
      refine AWp.regC [] [(0, ⟨[.ptr 9 0], [9], [9], [(9, .cells 117 [.int .u64 r8.2])], .int .u64 r8.1, [], [], []⟩)] [0, 1, 8, 9, 10, 11, 12] [9, 2000] ⟨67, [(0, .own 2000), (1, .int .i64 x1), (8, .int .i64 (x2 - x1)), (9, .ptr 9 0), (10, .int .u64 r4), (11, .int .i64 i5), (12, .int .i64 (bitsI .and .u64 r8.1 (r4 - (1 : Int))))], [(9, .cells 117 [.int .u64 r8.2]), (2000, bL 28 1 eW 0#16 l7)], [2000], 0⟩ ((callP Tryd.prog true 112 [] [9] [(9, .cells 117 [.int .u64 i6])] [] [] [.ptr 9 0] [.ptr 9 0] (.int .u64 r8.1) [(9, .cells 117 [.int .u64 r8.2])]) ∧ (0 ≤ (r4 - (1 : Int)) ∧ (r4 - (1 : Int)) ≤ 18446744073709551615) ∧ (-9223372036854775808 ≤ (bitsI .and .u64 r8.1 (r4 - (1 : Int))) ∧ (bitsI .and .u64 r8.1 (r4 - (1 : Int))) ≤ 9223372036854775807) ∧ True) Tryd_mixed (by kernel_rfl) ⟨⟨fun _ => (Spec1.ren (swapN 2000 9) (swapN_inv 2000 9) rfl (f112_ok i6 r8 hr8)), fun _ => ⟨.refl _, trivial⟩, .inl rfl⟩, ob10, ob11, trivial⟩ ?_
      refine thenQ_normal ?_
      obtain ⟨K1, hK1, h⟩ := jn_some h
      refine AWp.join (α := Int) (fun (i9 : Int) => ⟨67, [(0, .own 2000), (1, .int .i64 x1), (8, .int .i64 (x2 - x1)), (9, .ptr 9 0), (10, .int .u64 r4), (11, .int .i64 i5), (12, .int .i64 i9)], [(9, .cells 117 [.int .u64 r8.2]), (2000, bL 28 1 eW 0#16 l7)], [2000], 0⟩) (fun x => K1 x = some r) ?_ ?_
      ·
        refine AWp.seq ?_
        refine AWp.regC [] [] [0, 1, 8, 9, 10, 11, 12, 45] [9, 2000] ⟨67, [(0, .own 2000), (1, .int .i64 x1), (8, .int .i64 (x2 - x1)), (9, .ptr 9 0), (10, .int .u64 r4), (11, .int .i64 i5), (12, .int .i64 (bitsI .and .u64 r8.1 (r4 - (1 : Int)))), (45, .bool (decide ((bitsI .and .u64 r8.1 (r4 - (1 : Int))) ≥ (x2 - x1))))], [(9, .cells 117 [.int .u64 r8.2]), (2000, bL 28 1 eW 0#16 l7)], [2000], 0⟩ (True) Tryd_mixed (by kernel_rfl) trivial ?_
        refine thenQ_normal ?_
        refine AWp.cond (b := (decide ((bitsI .and .u64 r8.1 (r4 - (1 : Int))) ≥ (x2 - x1)))) (by kernel_rfl) (fun hc3 => ?_) (fun hc3 => ?_)
        ·
          replace h := ite_tb hc3 h
          obtain ⟨ob12, h⟩ := chk_some h
          refine AWp.regC [] [] [0, 1, 8, 9, 10, 11, 12] [9, 2000] ⟨67, [(0, .own 2000), (1, .int .i64 x1), (8, .int .i64 (x2 - x1)), (9, .ptr 9 0), (10, .int .u64 r4), (11, .int .i64 i5), (12, .int .i64 ((bitsI .and .u64 r8.1 (r4 - (1 : Int))) - (x2 - x1)))], [(9, .cells 117 [.int .u64 r8.2]), (2000, bL 28 1 eW 0#16 l7)], [2000], 0⟩ ((-9223372036854775808 ≤ ((bitsI .and .u64 r8.1 (r4 - (1 : Int))) - (x2 - x1)) ∧ ((bitsI .and .u64 r8.1 (r4 - (1 : Int))) - (x2 - x1)) ≤ 9223372036854775807) ∧ True) Tryd_mixed (by kernel_rfl) ⟨ob12, trivial⟩ ?_
          exact joinQ_normal (((bitsI .and .u64 r8.1 (r4 - (1 : Int))) - (x2 - x1))) (Le.mk (s := ⟨67, [(0, .own 2000), (1, .int .i64 x1), (8, .int .i64 (x2 - x1)), (9, .ptr 9 0), (10, .int .u64 r4), (11, .int .i64 i5), (12, .int .i64 ((bitsI .and .u64 r8.1 (r4 - (1 : Int))) - (x2 - x1)))], [(9, .cells 117 [.int .u64 r8.2]), (2000, bL 28 1 eW 0#16 l7)], [2000], 0⟩) (s' := ⟨67, [(0, .own 2000), (1, .int .i64 x1), (8, .int .i64 (x2 - x1)), (9, .ptr 9 0), (10, .int .u64 r4), (11, .int .i64 i5), (12, .int .i64 ((bitsI .and .u64 r8.1 (r4 - (1 : Int))) - (x2 - x1)))], [(9, .cells 117 [.int .u64 r8.2]), (2000, bL 28 1 eW 0#16 l7)], [2000], 0⟩) rfl rfl ⟨.refl _, .refl _, .refl _, .refl _, .refl _, .refl _, .refl _, trivial⟩ ⟨⟨_, rfl, .refl _⟩, ⟨_, rfl, .refl _⟩, trivial⟩) h
        ·
          replace h := ite_fb hc3 h
          refine AWp.skip ?_
          exact joinQ_normal ((bitsI .and .u64 r8.1 (r4 - (1 : Int)))) (Le.mk (s := ⟨67, [(0, .own 2000), (1, .int .i64 x1), (8, .int .i64 (x2 - x1)), (9, .ptr 9 0), (10, .int .u64 r4), (11, .int .i64 i5), (12, .int .i64 (bitsI .and .u64 r8.1 (r4 - (1 : Int)))), (45, .bool (decide ((bitsI .and .u64 r8.1 (r4 - (1 : Int))) ≥ (x2 - x1))))], [(9, .cells 117 [.int .u64 r8.2]), (2000, bL 28 1 eW 0#16 l7)], [2000], 0⟩) (s' := ⟨67, [(0, .own 2000), (1, .int .i64 x1), (8, .int .i64 (x2 - x1)), (9, .ptr 9 0), (10, .int .u64 r4), (11, .int .i64 i5), (12, .int .i64 (bitsI .and .u64 r8.1 (r4 - (1 : Int))))], [(9, .cells 117 [.int .u64 r8.2]), (2000, bL 28 1 eW 0#16 l7)], [2000], 0⟩) rfl rfl ⟨.refl _, .refl _, .refl _, .refl _, .refl _, .refl _, .refl _, trivial⟩ ⟨⟨_, rfl, .refl _⟩, ⟨_, rfl, .refl _⟩, trivial⟩) h
      ·
        rintro i9 h
        replace h := (congrFun hK1 _).symm.trans h
        obtain ⟨ob13, h⟩ := chk_some h
        obtain ⟨ob14, h⟩ := chk_some h
        obtain ⟨ob15, h⟩ := chk_some h
        obtain ⟨ob16, h⟩ := chk_some h
        obtain ⟨ob17, h⟩ := chk_some h
        obtain ⟨ob18, h⟩ := chk_some h
        obtain ⟨ob19, h⟩ := chk_some h
        obtain ⟨ob20, h⟩ := chk_some h
        obtain ⟨ob21, h⟩ := chk_some h
        obtain ⟨ob22, h⟩ := chk_some h
        refine AWp.regC [] [] [0, 1, 8, 9, 10, 11] [9, 2000] ⟨67, [(0, .own 2000), (1, .int .i64 x1), (8, .int .i64 (x2 - x1)), (9, .ptr 9 0), (10, .int .u64 r4), (11, .int .i64 i5)], [(9, .cells 117 [.int .u64 r8.2]), (2000, .rows 28 1 (l7).length (updF (updF (encF eW 0#16 l7) ((i5).toNat) 0 [.b16 (l7.getD (((x1 + i9)).toNat) 0#16)]) (((x1 + i9)).toNat) 0 [.b16 (l7.getD ((i5).toNat) 0#16)]))], [2000], 0⟩ ((-9223372036854775808 ≤ (x1 + i9) ∧ (x1 + i9) ≤ 9223372036854775807) ∧ (-9223372036854775808 ≤ (x1 + i9) ∧ (x1 + i9) ≤ 9223372036854775807) ∧ (0 ≤ (x1 + i9) ∧ (x1 + i9) < (((l7).length : Nat) : Int)) ∧ ((((x1 + i9)).toNat) < (l7).length) ∧ (0 ≤ i5 ∧ i5 < (((l7).length : Nat) : Int)) ∧ (((i5).toNat) < (l7).length) ∧ (0 ≤ i5 ∧ i5 < (((l7).length : Nat) : Int)) ∧ (((i5).toNat) < (l7).length) ∧ (0 ≤ (x1 + i9) ∧ (x1 + i9) < (((l7).length : Nat) : Int)) ∧ ((((x1 + i9)).toNat) < (l7).length) ∧ True) Tryd_mixed (by kernel_rfl) ⟨ob13, ob14, ob15, ob16, ob17, ob18, ob19, ob20, ob21, ob22, trivial⟩ ?_
        refine blockQ_normal ?_
        refine thenQ_normal ?_
        refine AWp.le (Le.mk (s := ⟨67, [(0, .own 2000), (1, .int .i64 x1), (8, .int .i64 (x2 - x1)), (9, .ptr 9 0), (10, .int .u64 r4), (11, .int .i64 i5)], [(9, .cells 117 [.int .u64 r8.2]), (2000, .rows 28 1 (l7).length (updF (updF (encF eW 0#16 l7) ((i5).toNat) 0 [.b16 (l7.getD (((x1 + i9)).toNat) 0#16)]) (((x1 + i9)).toNat) 0 [.b16 (l7.getD ((i5).toNat) 0#16)]))], [2000], 0⟩) (s' := ⟨67, [(0, .own 2000), (1, .int .i64 x1), (8, .int .i64 (x2 - x1)), (9, .ptr 9 0), (10, .int .u64 r4), (11, .int .i64 i5)], [(9, .cells 117 [.int .u64 r8.2]), (2000, bL 28 1 eW 0#16 ((l7.set ((i5).toNat) (l7.getD (((x1 + i9)).toNat) 0#16)).set (((x1 + i9)).toNat) (l7.getD ((i5).toNat) 0#16)))], [2000], 0⟩) rfl rfl ⟨.refl _, .refl _, .refl _, .refl _, .refl _, .refl _, trivial⟩ ⟨⟨_, rfl, .refl _⟩, ⟨_, rfl, (BLe.of (RL.set (l7.getD ((i5).toNat) 0#16) (RL.set (l7.getD (((x1 + i9)).toNat) 0#16) (RL.self _) (by intro j hj; match j, hj with | 0, _ => rfl)) (by intro j hj; match j, hj with | 0, _ => rfl)))⟩, trivial⟩) ?_
        obtain ⟨ob23, h⟩ := chk_some h
        refine AWp.regC [] [] [0, 1, 8, 9, 10, 11] [9, 2000] ⟨67, [(0, .own 2000), (1, .int .i64 x1), (8, .int .i64 (x2 - x1)), (9, .ptr 9 0), (10, .int .u64 r4), (11, .int .i64 (i5 + (1 : Int)))], [(9, .cells 117 [.int .u64 r8.2]), (2000, bL 28 1 eW 0#16 ((l7.set ((i5).toNat) (l7.getD (((x1 + i9)).toNat) 0#16)).set (((x1 + i9)).toNat) (l7.getD ((i5).toNat) 0#16)))], [2000], 0⟩ ((-9223372036854775808 ≤ (i5 + (1 : Int)) ∧ (i5 + (1 : Int)) ≤ 9223372036854775807) ∧ True) Tryd_mixed (by kernel_rfl) ⟨ob23, trivial⟩ ?_
        rw [hC0] at h
        exact loopQ_normal (_, (i5 + (1 : Int)), r8.2, ((l7.set ((i5).toNat) (l7.getD (((x1 + i9)).toNat) 0#16)).set (((x1 + i9)).toNat) (l7.getD ((i5).toNat) 0#16))) (Le.mk (s := ⟨67, [(0, .own 2000), (1, .int .i64 x1), (8, .int .i64 (x2 - x1)), (9, .ptr 9 0), (10, .int .u64 r4), (11, .int .i64 (i5 + (1 : Int)))], [(9, .cells 117 [.int .u64 r8.2]), (2000, bL 28 1 eW 0#16 ((l7.set ((i5).toNat) (l7.getD (((x1 + i9)).toNat) 0#16)).set (((x1 + i9)).toNat) (l7.getD ((i5).toNat) 0#16)))], [2000], 0⟩) (s' := ⟨67, [(0, .own 2000), (1, .int .i64 x1), (8, .int .i64 (x2 - x1)), (9, .ptr 9 0), (10, .int .u64 r4), (11, .int .i64 (i5 + (1 : Int)))], [(9, .cells 117 [.int .u64 r8.2]), (2000, bL 28 1 eW 0#16 ((l7.set ((i5).toNat) (l7.getD (((x1 + i9)).toNat) 0#16)).set (((x1 + i9)).toNat) (l7.getD ((i5).toNat) 0#16)))], [2000], 0⟩) rfl rfl ⟨.refl _, .refl _, .refl _, .refl _, .refl _, .refl _, trivial⟩ ⟨⟨_, rfl, .refl _⟩, ⟨_, rfl, .refl _⟩, trivial⟩) h (Nat.lt_succ_self _)
    ·
      replace h := ite_fb hc2 h
      refine AWp.exit ?_
      refine thenQ_exit ?_
      refine thenQ_exit ?_
      refine blockQ_same ?_
      have hret := Option.some.inj h
      subst hret
      exact bodyQ_le (Le.mk (s := ⟨67, [(0, .own 2000), (1, .int .i64 x1), (8, .int .i64 (x2 - x1)), (9, .ptr 9 0), (10, .int .u64 r4), (11, .int .i64 i5), (35, .bool (decide (i5 ≤ ((x1 + (((x2 - x1) / (4 : Int)) * (2 : Int))) + (1 : Int)))))], [(9, .cells 117 [.int .u64 i6]), (2000, bL 28 1 eW 0#16 l7)], [2000], 0⟩) (s' := ⟨67, [], [(2000, bL 28 1 eW 0#16 l7)], [2000], 0⟩) rfl rfl trivial ⟨⟨_, rfl, .refl _⟩, trivial⟩) (bodyQ_normal _ rfl ⟨rfl, rfl⟩ rfl)
  ·
    replace h := ite_fb hc1 h
    refine AWp.skip ?_
    have hret := Option.some.inj h
    subst hret
    exact bodyQ_le (Le.mk (s := ⟨67, [(0, .own 2000), (1, .int .i64 x1), (8, .int .i64 (x2 - x1)), (17, .bool (decide ((x2 - x1) ≥ (8 : Int))))], [(2000, bL 28 1 eW 0#16 x3)], [2000], 0⟩) (s' := ⟨67, [], [(2000, bL 28 1 eW 0#16 x3)], [2000], 0⟩) rfl rfl trivial ⟨⟨_, rfl, .refl _⟩, trivial⟩) (bodyQ_normal _ rfl ⟨rfl, rfl⟩ rfl)
def f119 (x1 : Int) (x2 : Int) (x3 : List (BitVec 16)) (x4 : Int) : Option (Int × Int × List (BitVec 16) × Int) :=
  (f38 (x3.getD ((x2).toNat) 0#16) (x3.getD ((x1).toNat) 0#16)).bind fun (r5 : Int) =>
  chk (0 ≤ x2 ∧ x2 < (((x3).length : Nat) : Int)) <|
  chk (((x2).toNat) < (x3).length) <|
  chk (0 ≤ x1 ∧ x1 < (((x3).length : Nat) : Int)) <|
  chk (((x1).toNat) < (x3).length) <|
  if (decide (r5 < (0 : Int))) then (
  chk (-9223372036854775808 ≤ (x4 + (1 : Int)) ∧ (x4 + (1 : Int)) ≤ 9223372036854775807) <|
  some (x2, x1, x3, (x4 + (1 : Int)))
  ) else (
  some (x1, x2, x3, x4)
  )
set_option maxRecDepth 100000 in
theorem f119_ok  (x1 : Int) (x2 : Int) (x3 : List (BitVec 16)) (x4 : Int) (r : Int × Int × List (BitVec 16) × Int) (h : f119 x1 x2 x3 x4 = some r)  : Spec1 Tryd.prog 119 [] [2000, 2001] [(2000, bL 28 1 eW 0#16 x3), (2001, .cells 3 [.int .i64 x4])] [.own 2000, .int .i64 x1, .int .i64 x2, .ptr 2001 0, .fn (.func 38) []] (.tup [.int .i64 r.1, .int .i64 r.2.1]) [(2000, bL 28 1 eW 0#16 r.2.2.1), (2001, .cells 3 [.int .i64 r.2.2.2])] := by
  unfold f119 at h
  refine Spec1.body 0 _ _ Tryd.func119 rfl Tryd.ntmps119 rfl rfl ?_
  refine AWp.seq ?_
  refine AWp.regC [] [] [0, 1, 2, 3, 4] [2000, 2001] ⟨32, [(0, .own 2000), (1, .int .i64 x1), (2, .int .i64 x2), (3, .ptr 2001 0), (4, .fn (.func 38) [])], [(2000, bL 28 1 eW 0#16 x3), (2001, .cells 3 [.int .i64 x4])], [2000, 2001], 0⟩ (True) Tryd_mixed (by kernel_rfl) trivial ?_
  refine thenQ_normal ?_
  refine AWp.seq ?_
  refine AWp.seq ?_
  obtain ⟨r5, hr5, h⟩ := bind_ok h
  obtain ⟨ob0, h⟩ := chk_some h
  obtain ⟨ob1, h⟩ := chk_some h
  obtain ⟨ob2, h⟩ := chk_some h
  obtain ⟨ob3, h⟩ := chk_some h
  refine AWp.regC [] [(9, ⟨[.b16 (x3.getD ((x2).toNat) 0#16), .b16 (x3.getD ((x1).toNat) 0#16)], [], [], [], .int .i64 r5, [], [], []⟩)] [1, 2, 3, 22] [2000, 2001] ⟨32, [(1, .int .i64 x1), (2, .int .i64 x2), (3, .ptr 2001 0), (22, .bool (decide (r5 < (0 : Int))))], [(2000, bL 28 1 eW 0#16 x3), (2001, .cells 3 [.int .i64 x4])], [2000, 2001], 0⟩ ((0 ≤ x2 ∧ x2 < (((x3).length : Nat) : Int)) ∧ (((x2).toNat) < (x3).length) ∧ (0 ≤ x1 ∧ x1 < (((x3).length : Nat) : Int)) ∧ (((x1).toNat) < (x3).length) ∧ (callP Tryd.prog true 38 [] [] [] [] [] [.b16 (x3.getD ((x2).toNat) 0#16), .b16 (x3.getD ((x1).toNat) 0#16)] [.b16 (x3.getD ((x2).toNat) 0#16), .b16 (x3.getD ((x1).toNat) 0#16)] (.int .i64 r5) []) ∧ True) Tryd_mixed (by kernel_rfl) ⟨ob0, ob1, ob2, ob3, ⟨fun _ => (f38_ok (x3.getD ((x2).toNat) 0#16) (x3.getD ((x1).toNat) 0#16) r5 hr5), fun _ => ⟨.refl _, .refl _, trivial⟩, .inl rfl⟩, trivial⟩ ?_
  refine thenQ_normal ?_
  refine AWp.cond (b := (decide (r5 < (0 : Int)))) (by kernel_rfl) (fun hc1 => ?_) (fun hc1 => ?_)
  ·
    replace h := ite_tb hc1 h
    refine AWp.seq ?_
    obtain ⟨ob4, h⟩ := chk_some h
    refine AWp.regC [] [] [1, 2] [2000, 2001] ⟨32, [(1, .int .i64 x1), (2, .int .i64 x2)], [(2000, bL 28 1 eW 0#16 x3), (2001, .cells 3 [.int .i64 (x4 + (1 : Int))])], [2000, 2001], 0⟩ ((-9223372036854775808 ≤ (x4 + (1 : Int)) ∧ (x4 + (1 : Int)) ≤ 9223372036854775807) ∧ (True) ∧ True) Tryd_mixed (by kernel_rfl) ⟨ob4, trivial, trivial⟩ ?_
    refine thenQ_normal ?_
    refine AWp.seq ?_
    refine AWp.regC [] [] [10, 11] [2000, 2001] ⟨32, [(10, .int .i64 x2), (11, .int .i64 x1)], [(2000, bL 28 1 eW 0#16 x3), (2001, .cells 3 [.int .i64 (x4 + (1 : Int))])], [2000, 2001], 0⟩ (True) Tryd_mixed (by kernel_rfl) trivial ?_
    refine thenQ_normal ?_
    have hret := Option.some.inj h
    subst hret
    refine AWp.le (Le.mk (s := ⟨32, [(10, .int .i64 x2), (11, .int .i64 x1)], [(2000, bL 28 1 eW 0#16 x3), (2001, .cells 3 [.int .i64 (x4 + (1 : Int))])], [2000, 2001], 0⟩) (s' := ⟨32, [(10, .int .i64 x2), (11, .int .i64 x1)], [(2000, bL 28 1 eW 0#16 x3), (2001, .cells 3 [.int .i64 (x4 + (1 : Int))])], [2000, 2001], 0⟩) rfl rfl ⟨.refl _, .refl _, trivial⟩ ⟨⟨_, rfl, .refl _⟩, ⟨_, rfl, .refl _⟩, trivial⟩) ?_
    refine AWp.ret ?_
    refine thenQ_ret ?_
    exact bodyQ_ret _ rfl ⟨rfl, rfl⟩ rfl
  ·
    replace h := ite_fb hc1 h
    refine AWp.skip ?_
    refine thenQ_normal ?_
    refine AWp.seq ?_
    refine AWp.regC [] [] [10, 11] [2000, 2001] ⟨32, [(10, .int .i64 x1), (11, .int .i64 x2)], [(2000, bL 28 1 eW 0#16 x3), (2001, .cells 3 [.int .i64 x4])], [2000, 2001], 0⟩ (True) Tryd_mixed (by kernel_rfl) trivial ?_
    refine thenQ_normal ?_
    have hret := Option.some.inj h
    subst hret
    refine AWp.le (Le.mk (s := ⟨32, [(10, .int .i64 x1), (11, .int .i64 x2)], [(2000, bL 28 1 eW 0#16 x3), (2001, .cells 3 [.int .i64 x4])], [2000, 2001], 0⟩) (s' := ⟨32, [(10, .int .i64 x1), (11, .int .i64 x2)], [(2000, bL 28 1 eW 0#16 x3), (2001, .cells 3 [.int .i64 x4])], [2000, 2001], 0⟩) rfl rfl ⟨.refl _, .refl _, trivial⟩ ⟨⟨_, rfl, .refl _⟩, ⟨_, rfl, .refl _⟩, trivial⟩) ?_
    refine AWp.ret ?_
    exact bodyQ_ret _ rfl ⟨rfl, rfl⟩ rfl
def f114 (x1 : Int) (x2 : Int) (x3 : Int) (x4 : List (BitVec 16)) (x5 : Int) : Option (Int × List (BitVec 16) × Int) :=
  (f119 x1 x2 x4 x5).bind fun (r6 : Int × Int × List (BitVec 16) × Int) =>
  (f119 r6.2.1 x3 r6.2.2.1 r6.2.2.2).bind fun (r7 : Int × Int × List (BitVec 16) × Int) =>
  (f119 r6.1 r7.1 r7.2.2.1 r7.2.2.2).bind fun (r8 : Int × Int × List (BitVec 16) × Int) =>
  some (r8.2.1, r8.2.2.1, r8.2.2.2)
set_option maxRecDepth 100000 in
theorem f114_ok  (x1 : Int) (x2 : Int) (x3 : Int) (x4 : List (BitVec 16)) (x5 : Int) (r : Int × List (BitVec 16) × Int) (h : f114 x1 x2 x3 x4 x5 = some r)  : Spec1 Tryd.prog 114 [] [2000, 2001] [(2000, bL 28 1 eW 0#16 x4), (2001, .cells 3 [.int .i64 x5])] [.own 2000, .int .i64 x1, .int .i64 x2, .int .i64 x3, .ptr 2001 0, .fn (.func 38) []] (.int .i64 r.1) [(2000, bL 28 1 eW 0#16 r.2.1), (2001, .cells 3 [.int .i64 r.2.2])] := by
  unfold f114 at h
  refine Spec1.body 0 _ _ Tryd.func114 rfl Tryd.ntmps114 rfl rfl ?_
  refine AWp.seq ?_
  refine AWp.regC [] [] [0, 1, 2, 3, 4, 5] [2000, 2001] ⟨41, [(0, .own 2000), (1, .int .i64 x1), (2, .int .i64 x2), (3, .int .i64 x3), (4, .ptr 2001 0), (5, .fn (.func 38) [])], [(2000, bL 28 1 eW 0#16 x4), (2001, .cells 3 [.int .i64 x5])], [2000, 2001], 0⟩ (True) Tryd_mixed (by kernel_rfl) trivial ?_
  refine thenQ_normal ?_
  refine AWp.seq ?_
  obtain ⟨r6, hr6, h⟩ := bind_ok h
  refine AWp.regC [] [(5, ⟨[.own 2000, .int .i64 x1, .int .i64 x2, .ptr 2001 0, .fn (.func 38) []], [2000, 2001], [2000, 2001], [(2000, bL 28 1 eW 0#16 r6.2.2.1), (2001, .cells 3 [.int .i64 r6.2.2.2])], .tup [.int .i64 r6.1, .int .i64 r6.2.1], [], [], []⟩)] [0, 1, 2, 3, 4, 5] [2000, 2001] ⟨41, [(0, .own 2000), (1, .int .i64 r6.1), (2, .int .i64 r6.2.1), (3, .int .i64 x3), (4, .ptr 2001 0), (5, .fn (.func 38) [])], [(2000, bL 28 1 eW 0#16 r6.2.2.1), (2001, .cells 3 [.int .i64 r6.2.2.2])], [2000, 2001], 0⟩ ((callP Tryd.prog true 119 [] [2000, 2001] [(2000, bL 28 1 eW 0#16 x4), (2001, .cells 3 [.int .i64 x5])] [] [] [.own 2000, .int .i64 x1, .int .i64 x2, .ptr 2001 0, .fn (.func 38) []] [.own 2000, .int .i64 x1, .int .i64 x2, .ptr 2001 0, .fn (.func 38) []] (.tup [.int .i64 r6.1, .int .i64 r6.2.1]) [(2000, bL 28 1 eW 0#16 r6.2.2.1), (2001, .cells 3 [.int .i64 r6.2.2.2])]) ∧ True) Tryd_mixed (by kernel_rfl) ⟨⟨fun _ => (f119_ok x1 x2 x4 x5 r6 hr6), fun _ => ⟨.refl _, .refl _, .refl _, .refl _, .refl _, trivial⟩, .inl rfl⟩, trivial⟩ ?_
  refine thenQ_normal ?_
  refine AWp.seq ?_
  obtain ⟨r7, hr7, h⟩ := bind_ok h
  refine AWp.regC [] [(5, ⟨[.own 2000, .int .i64 r6.2.1, .int .i64 x3, .ptr 2001 0, .fn (.func 38) []], [2000, 2001], [2000, 2001], [(2000, bL 28 1 eW 0#16 r7.2.2.1), (2001, .cells 3 [.int .i64 r7.2.2.2])], .tup [.int .i64 r7.1, .int .i64 r7.2.1], [], [], []⟩)] [0, 1, 2, 4, 5] [2000, 2001] ⟨41, [(0, .own 2000), (1, .int .i64 r6.1), (2, .int .i64 r7.1), (4, .ptr 2001 0), (5, .fn (.func 38) [])], [(2000, bL 28 1 eW 0#16 r7.2.2.1), (2001, .cells 3 [.int .i64 r7.2.2.2])], [2000, 2001], 0⟩ ((callP Tryd.prog true 119 [] [2000, 2001] [(2000, bL 28 1 eW 0#16 r6.2.2.1), (2001, .cells 3 [.int .i64 r6.2.2.2])] [] [] [.own 2000, .int .i64 r6.2.1, .int .i64 x3, .ptr 2001 0, .fn (.func 38) []] [.own 2000, .int .i64 r6.2.1, .int .i64 x3, .ptr 2001 0, .fn (.func 38) []] (.tup [.int .i64 r7.1, .int .i64 r7.2.1]) [(2000, bL 28 1 eW 0#16 r7.2.2.1), (2001, .cells 3 [.int .i64 r7.2.2.2])]) ∧ True) Tryd_mixed (by kernel_rfl) ⟨⟨fun _ => (f119_ok r6.2.1 x3 r6.2.2.1 r6.2.2.2 r7 hr7), fun _ => ⟨.refl _, .refl _, .refl _, .refl _, .refl _, trivial⟩, .inl rfl⟩, trivial⟩ ?_
  refine thenQ_normal ?_
  refine AWp.seq ?_
  obtain ⟨r8, hr8, h⟩ := bind_ok h
  refine AWp.regC [] [(5, ⟨[.own 2000, .int .i64 r6.1, .int .i64 r7.1, .ptr 2001 0, .fn (.func 38) []], [2000, 2001], [2000, 2001], [(2000, bL 28 1 eW 0#16 r8.2.2.1), (2001, .cells 3 [.int .i64 r8.2.2.2])], .tup [.int .i64 r8.1, .int .i64 r8.2.1], [], [], []⟩)] [2] [2000, 2001] ⟨41, [(2, .int .i64 r8.2.1)], [(2000, bL 28 1 eW 0#16 r8.2.2.1), (2001, .cells 3 [.int .i64 r8.2.2.2])], [2000, 2001], 0⟩ ((callP Tryd.prog true 119 [] [2000, 2001] [(2000, bL 28 1 eW 0#16 r7.2.2.1), (2001, .cells 3 [.int .i64 r7.2.2.2])] [] [] [.own 2000, .int .i64 r6.1, .int .i64 r7.1, .ptr 2001 0, .fn (.func 38) []] [.own 2000, .int .i64 r6.1, .int .i64 r7.1, .ptr 2001 0, .fn (.func 38) []] (.tup [.int .i64 r8.1, .int .i64 r8.2.1]) [(2000, bL 28 1 eW 0#16 r8.2.2.1), (2001, .cells 3 [.int .i64 r8.2.2.2])]) ∧ True) Tryd_mixed (by kernel_rfl) ⟨⟨fun _ => (f119_ok r6.1 r7.1 r7.2.2.1 r7.2.2.2 r8 hr8), fun _ => ⟨.refl _, .refl _, .refl _, .refl _, .refl _, trivial⟩, .inl rfl⟩, trivial⟩ ?_
  refine thenQ_normal ?_
  refine AWp.seq ?_
  refine AWp.regC [] [] [12] [2000, 2001] ⟨41, [(12, .int .i64 r8.2.1)], [(2000, bL 28 1 eW 0#16 r8.2.2.1), (2001, .cells 3 [.int .i64 r8.2.2.2])], [2000, 2001], 0⟩ (True) Tryd_mixed (by kernel_rfl) trivial ?_
  refine thenQ_normal ?_
  have hret := Option.some.inj h
  subst hret
  refine AWp.le (Le.mk (s := ⟨41, [(12, .int .i64 r8.2.1)], [(2000, bL 28 1 eW 0#16 r8.2.2.1), (2001, .cells 3 [.int .i64 r8.2.2.2])], [2000, 2001], 0⟩) (s' := ⟨41, [(12, .int .i64 r8.2.1)], [(2000, bL 28 1 eW 0#16 r8.2.2.1), (2001, .cells 3 [.int .i64 r8.2.2.2])], [2000, 2001], 0⟩) rfl rfl ⟨.refl _, trivial⟩ ⟨⟨_, rfl, .refl _⟩, ⟨_, rfl, .refl _⟩, trivial⟩) ?_
  refine AWp.ret ?_
  exact bodyQ_ret _ rfl ⟨rfl, rfl⟩ rfl
def f113 (x1 : Int) (x2 : List (BitVec 16)) (x3 : Int) : Option (Int × List (BitVec 16) × Int) :=
  (f114 (x1 - (1 : Int)) x1 (x1 + (1 : Int)) x2 x3).bind fun (r4 : Int × List (BitVec 16) × Int) =>
  chk (-9223372036854775808 ≤ (x1 - (1 : Int)) ∧ (x1 - (1 : Int)) ≤ 9223372036854775807) <|
  chk (-9223372036854775808 ≤ (x1 + (1 : Int)) ∧ (x1 + (1 : Int)) ≤ 9223372036854775807) <|
  some (r4.1, r4.2.1, r4.2.2)
set_option maxRecDepth 100000 in
theorem f113_ok  (x1 : Int) (x2 : List (BitVec 16)) (x3 : Int) (r : Int × List (BitVec 16) × Int) (h : f113 x1 x2 x3 = some r)  : Spec1 Tryd.prog 113 [] [2000, 2001] [(2000, bL 28 1 eW 0#16 x2), (2001, .cells 3 [.int .i64 x3])] [.own 2000, .int .i64 x1, .ptr 2001 0, .fn (.func 38) []] (.int .i64 r.1) [(2000, bL 28 1 eW 0#16 r.2.1), (2001, .cells 3 [.int .i64 r.2.2])] := by
  unfold f113 at h
  refine Spec1.body 0 _ _ Tryd.func113 rfl Tryd.ntmps113 rfl rfl ?_
  refine AWp.seq ?_
  refine AWp.regC [] [] [0, 1, 2, 3] [2000, 2001] ⟨18, [(0, .own 2000), (1, .int .i64 x1), (2, .ptr 2001 0), (3, .fn (.func 38) [])], [(2000, bL 28 1 eW 0#16 x2), (2001, .cells 3 [.int .i64 x3])], [2000, 2001], 0⟩ (True) Tryd_mixed (by kernel_rfl) trivial ?_
  refine thenQ_normal ?_
  refine AWp.seq ?_
  obtain ⟨r4, hr4, h⟩ := bind_ok h
  obtain ⟨ob0, h⟩ := chk_some h
  obtain ⟨ob1, h⟩ := chk_some h
  refine AWp.regC [] [(8, ⟨[.own 2000, .int .i64 (x1 - (1 : Int)), .int .i64 x1, .int .i64 (x1 + (1 : Int)), .ptr 2001 0, .fn (.func 38) []], [2000, 2001], [2000, 2001], [(2000, bL 28 1 eW 0#16 r4.2.1), (2001, .cells 3 [.int .i64 r4.2.2])], .int .i64 r4.1, [], [], []⟩)] [8] [2000, 2001] ⟨18, [(8, .int .i64 r4.1)], [(2000, bL 28 1 eW 0#16 r4.2.1), (2001, .cells 3 [.int .i64 r4.2.2])], [2000, 2001], 0⟩ ((-9223372036854775808 ≤ (x1 - (1 : Int)) ∧ (x1 - (1 : Int)) ≤ 9223372036854775807) ∧ (-9223372036854775808 ≤ (x1 + (1 : Int)) ∧ (x1 + (1 : Int)) ≤ 9223372036854775807) ∧ (callP Tryd.prog true 114 [] [2000, 2001] [(2000, bL 28 1 eW 0#16 x2), (2001, .cells 3 [.int .i64 x3])] [] [] [.own 2000, .int .i64 (x1 - (1 : Int)), .int .i64 x1, .int .i64 (x1 + (1 : Int)), .ptr 2001 0, .fn (.func 38) []] [.own 2000, .int .i64 (x1 - (1 : Int)), .int .i64 x1, .int .i64 (x1 + (1 : Int)), .ptr 2001 0, .fn (.func 38) []] (.int .i64 r4.1) [(2000, bL 28 1 eW 0#16 r4.2.1), (2001, .cells 3 [.int .i64 r4.2.2])]) ∧ True) Tryd_mixed (by kernel_rfl) ⟨ob0, ob1, ⟨fun _ => (f114_ok (x1 - (1 : Int)) x1 (x1 + (1 : Int)) x2 x3 r4 hr4), fun _ => ⟨.refl _, .refl _, .refl _, .refl _, .refl _, .refl _, trivial⟩, .inl rfl⟩, trivial⟩ ?_
  refine thenQ_normal ?_
  have hret := Option.some.inj h
  subst hret
  refine AWp.le (Le.mk (s := ⟨18, [(8, .int .i64 r4.1)], [(2000, bL 28 1 eW 0#16 r4.2.1), (2001, .cells 3 [.int .i64 r4.2.2])], [2000, 2001], 0⟩) (s' := ⟨18, [(8, .int .i64 r4.1)], [(2000, bL 28 1 eW 0#16 r4.2.1), (2001, .cells 3 [.int .i64 r4.2.2])], [2000, 2001], 0⟩) rfl rfl ⟨.refl _, trivial⟩ ⟨⟨_, rfl, .refl _⟩, ⟨_, rfl, .refl _⟩, trivial⟩) ?_
  refine AWp.ret ?_
  exact bodyQ_ret _ rfl ⟨rfl, rfl⟩ rfl
def f99 (x1 : Int) (x2 : Int) (x3 : List (BitVec 16)) : Option (Int × Int × List (BitVec 16)) :=
  chk (-9223372036854775808 ≤ (x2 - x1) ∧ (x2 - x1) ≤ 9223372036854775807) <|
  chk (0 ≤ (x2 - x1) ∧ 1 ≤ (4 : Int) ∧ -9223372036854775808 ≤ ((x2 - x1) / (4 : Int)) ∧ ((x2 - x1) / (4 : Int)) ≤ 9223372036854775807) <|
  chk (-9223372036854775808 ≤ (((x2 - x1) / (4 : Int)) * (1 : Int)) ∧ (((x2 - x1) / (4 : Int)) * (1 : Int)) ≤ 9223372036854775807) <|
  chk (-9223372036854775808 ≤ (x1 + (((x2 - x1) / (4 : Int)) * (1 : Int))) ∧ (x1 + (((x2 - x1) / (4 : Int)) * (1 : Int))) ≤ 9223372036854775807) <|
  chk (0 ≤ (x2 - x1) ∧ 1 ≤ (4 : Int) ∧ -9223372036854775808 ≤ ((x2 - x1) / (4 : Int)) ∧ ((x2 - x1) / (4 : Int)) ≤ 9223372036854775807) <|
  chk (-9223372036854775808 ≤ (((x2 - x1) / (4 : Int)) * (2 : Int)) ∧ (((x2 - x1) / (4 : Int)) * (2 : Int)) ≤ 9223372036854775807) <|
  chk (-9223372036854775808 ≤ (x1 + (((x2 - x1) / (4 : Int)) * (2 : Int))) ∧ (x1 + (((x2 - x1) / (4 : Int)) * (2 : Int))) ≤ 9223372036854775807) <|
  chk (0 ≤ (x2 - x1) ∧ 1 ≤ (4 : Int) ∧ -9223372036854775808 ≤ ((x2 - x1) / (4 : Int)) ∧ ((x2 - x1) / (4 : Int)) ≤ 9223372036854775807) <|
  chk (-9223372036854775808 ≤ (((x2 - x1) / (4 : Int)) * (3 : Int)) ∧ (((x2 - x1) / (4 : Int)) * (3 : Int)) ≤ 9223372036854775807) <|
  chk (-9223372036854775808 ≤ (x1 + (((x2 - x1) / (4 : Int)) * (3 : Int))) ∧ (x1 + (((x2 - x1) / (4 : Int)) * (3 : Int))) ≤ 9223372036854775807) <|
  jn (fun ((i13, i14, l15) : Int × Int × List (BitVec 16)) =>
  if (i14 == (0 : Int)) then (
  some (i13, (1 : Int), l15)
  ) else (
  if (i14 == (12 : Int)) then (
  some (i13, (2 : Int), l15)
  ) else (
  some (i13, (0 : Int), l15)
  )
  )
  ) fun (K1 : (Int × Int × List (BitVec 16)) → Option (Int × Int × List (BitVec 16))) =>
  if (decide ((x2 - x1) ≥ (8 : Int))) then (
  jn (fun ((i7, i8, i9, i10, l11) : Int × Int × Int × Int × List (BitVec 16)) =>
  (f114 i7 i8 i9 l11 i10).bind fun (r12 : Int × List (BitVec 16) × Int) =>
  K1 (r12.1, r12.2.2, r12.2.1)
  ) fun (K2 : (Int × Int × Int × Int × List (BitVec 16)) → Option (Int × Int × List (BitVec 16))) =>
  if (decide ((x2 - x1) ≥ (50 : Int))) then (
  (f113 (x1 + (((x2 - x1) / (4 : Int)) * (1 : Int))) x3 (0 : Int)).bind fun (r4 : Int × List (BitVec 16) × Int) =>
  (f113 (x1 + (((x2 - x1) / (4 : Int)) * (2 : Int))) r4.2.1 r4.2.2).bind fun (r5 : Int × List (BitVec 16) × Int) =>
  (f113 (x1 + (((x2 - x1) / (4 : Int)) * (3 : Int))) r5.2.1 r5.2.2).bind fun (r6 : Int × List (BitVec 16) × Int) =>
  K2 (r4.1, r5.1, r6.1, r6.2.2, r6.2.1)
  ) else (
  K2 ((x1 + (((x2 - x1) / (4 : Int)) * (1 : Int))), (x1 + (((x2 - x1) / (4 : Int)) * (2 : Int))), (x1 + (((x2 - x1) / (4 : Int)) * (3 : Int))), (0 : Int), x3)
  )
  ) else (
  K1 ((x1 + (((x2 - x1) / (4 : Int)) * (2 : Int))), (0 : Int), x3)
  )
set_option maxRecDepth 100000 in
theorem f99_ok  (x1 : Int) (x2 : Int) (x3 : List (BitVec 16)) (r : Int × Int × List (BitVec 16)) (h : f99 x1 x2 x3 = some r)  : Spec1 Tryd.prog 99 [] [2000] [(2000, bL 28 1 eW 0#16 x3)] [.own 2000, .int .i64 x1, .int .i64 x2, .fn (.func 38) []] (.tup [.int .i64 r.1, .int .i64 r.2.1]) [(2000, bL 28 1 eW 0#16 r.2.2)] := by
  unfold f99 at h
  refine Spec1.body 0 _ _ Tryd.func99 rfl Tryd.ntmps99 rfl rfl ?_
  refine AWp.seq ?_
  refine AWp.regC [] [] [0, 1, 2, 3] [2000] ⟨63, [(0, .own 2000), (1, .int .i64 x1), (2, .int .i64 x2), (3, .fn (.func 38) [])], [(2000, bL 28 1 eW 0#16 x3)], [2000], 0⟩ (True) Tryd_mixed (by kernel_rfl) trivial ?_
  refine thenQ_normal ?_
  refine AWp.seq ?_
  obtain ⟨ob0, h⟩ := chk_some h
  refine AWp.regC [] [] [0, 1, 3, 10] [2000] ⟨63, [(0, .own 2000), (1, .int .i64 x1), (3, .fn (.func 38) []), (10, .int .i64 (x2 - x1))], [(2000, bL 28 1 eW 0#16 x3)], [2000], 0⟩ ((-9223372036854775808 ≤ (x2 - x1) ∧ (x2 - x1) ≤ 9223372036854775807) ∧ True) Tryd_mixed (by kernel_rfl) ⟨ob0, trivial⟩ ?_
  refine thenQ_normal ?_
  refine AWp.seq ?_
  refine AWp.regC [] [] [0, 1, 3, 10, 11] [11, 2000] ⟨63, [(0, .own 2000), (1, .int .i64 x1), (3, .fn (.func 38) []), (10, .int .i64 (x2 - x1)), (11, .ptr 11 0)], [(11, .cells 3 [.int .i64 (0 : Int)]), (2000, bL 28 1 eW 0#16 x3)], [2000], 0⟩ (True) Tryd_mixed (by kernel_rfl) trivial ?_
  refine thenQ_normal ?_
  refine AWp.seq ?_
  obtain ⟨ob1, h⟩ := chk_some h
  obtain ⟨ob2, h⟩ := chk_some h
  obtain ⟨ob3, h⟩ := chk_some h
  refine AWp.regC [] [] [0, 1, 3, 10, 11, 12] [11, 2000] ⟨63, [(0, .own 2000), (1, .int .i64 x1), (3, .fn (.func 38) []), (10, .int .i64 (x2 - x1)), (11, .ptr 11 0), (12, .int .i64 (x1 + (((x2 - x1) / (4 : Int)) * (1 : Int))))], [(11, .cells 3 [.int .i64 (0 : Int)]), (2000, bL 28 1 eW 0#16 x3)], [2000], 0⟩ ((0 ≤ (x2 - x1) ∧ 1 ≤ (4 : Int) ∧ -9223372036854775808 ≤ ((x2 - x1) / (4 : Int)) ∧ ((x2 - x1) / (4 : Int)) ≤ 9223372036854775807) ∧ (-9223372036854775808 ≤ (((x2 - x1) / (4 : Int)) * (1 : Int)) ∧ (((x2 - x1) / (4 : Int)) * (1 : Int)) ≤ 9223372036854775807) ∧ (-9223372036854775808 ≤ (x1 + (((x2 - x1) / (4 : Int)) * (1 : Int))) ∧ (x1 + (((x2 - x1) / (4 : Int)) * (1 : Int))) ≤ 9223372036854775807) ∧ True) Tryd_mixed (by kernel_rfl) ⟨ob1, ob2, ob3, trivial⟩ ?_
  refine thenQ_normal ?_
  refine AWp.seq ?_
  obtain ⟨ob4, h⟩ := chk_some h
  obtain ⟨ob5, h⟩ := chk_some h
  obtain ⟨ob6, h⟩ := chk_some h
  refine AWp.regC [] [] [0, 1, 3, 10, 11, 12, 13] [11, 2000] ⟨63, [(0, .own 2000), (1, .int .i64 x1), (3, .fn (.func 38) []), (10, .int .i64 (x2 - x1)), (11, .ptr 11 0), (12, .int .i64 (x1 + (((x2 - x1) / (4 : Int)) * (1 : Int)))), (13, .int .i64 (x1 + (((x2 - x1) / (4 : Int)) * (2 : Int))))], [(11, .cells 3 [.int .i64 (0 : Int)]), (2000, bL 28 1 eW 0#16 x3)], [2000], 0⟩ ((0 ≤ (x2 - x1) ∧ 1 ≤ (4 : Int) ∧ -9223372036854775808 ≤ ((x2 - x1) / (4 : Int)) ∧ ((x2 - x1) / (4 : Int)) ≤ 9223372036854775807) ∧ (-9223372036854775808 ≤ (((x2 - x1) / (4 : Int)) * (2 : Int)) ∧ (((x2 - x1) / (4 : Int)) * (2 : Int)) ≤ 9223372036854775807) ∧ (-9223372036854775808 ≤ (x1 + (((x2 - x1) / (4 : Int)) * (2 : Int))) ∧ (x1 + (((x2 - x1) / (4 : Int)) * (2 : Int))) ≤ 9223372036854775807) ∧ True) Tryd_mixed (by kernel_rfl) ⟨ob4, ob5, ob6, trivial⟩ ?_
  refine thenQ_normal ?_
  refine AWp.seq ?_
  obtain ⟨ob7, h⟩ := chk_some h
  obtain ⟨ob8, h⟩ := chk_some h
  obtain ⟨ob9, h⟩ := chk_some h
  refine AWp.regC [] [] [0, 3, 10, 11, 12, 13, 14] [11, 2000] ⟨63, [(0, .own 2000), (3, .fn (.func 38) []), (10, .int .i64 (x2 - x1)), (11, .ptr 11 0), (12, .int .i64 (x1 + (((x2 - x1) / (4 : Int)) * (1 : Int)))), (13, .int .i64 (x1 + (((x2 - x1) / (4 : Int)) * (2 : Int)))), (14, .int .i64 (x1 + (((x2 - x1) / (4 : Int)) * (3 : Int))))], [(11, .cells 3 [.int .i64 (0 : Int)]), (2000, bL 28 1 eW 0#16 x3)], [2000], 0⟩ ((0 ≤ (x2 - x1) ∧ 1 ≤ (4 : Int) ∧ -9223372036854775808 ≤ ((x2 - x1) / (4 : Int)) ∧ ((x2 - x1) / (4 : Int)) ≤ 9223372036854775807) ∧ (-9223372036854775808 ≤ (((x2 - x1) / (4 : Int)) * (3 : Int)) ∧ (((x2 - x1) / (4 : Int)) * (3 : Int)) ≤ 9223372036854775807) ∧ (-9223372036854775808 ≤ (x1 + (((x2 - x1) / (4 : Int)) * (3 : Int))) ∧ (x1 + (((x2 - x1) / (4 : Int)) * (3 : Int))) ≤ 9223372036854775807) ∧ True) Tryd_mixed (by kernel_rfl) ⟨ob7, ob8, ob9, trivial⟩ ?_
  refine thenQ_normal ?_
  obtain ⟨K1, hK1, h⟩ := jn_some h
  refine AWp.join (α := Int × Int × List (BitVec 16)) (fun (x : Int × Int × List (BitVec 16)) => match x with | (i13, i14, l15) => ⟨63, [(11, .ptr 11 0), (13, .int .i64 i13)], [(11, .cells 3 [.int .i64 i14]), (2000, bL 28 1 eW 0#16 l15)], [2000], 0⟩) (fun x => K1 x = some r) ?_ ?_
  ·
    refine AWp.seq ?_
    refine AWp.regC [] [] [0, 3, 10, 11, 12, 13, 14, 34] [11, 2000] ⟨63, [(0, .own 2000), (3, .fn (.func 38) []), (10, .int .i64 (x2 - x1)), (11, .ptr 11 0), (12, .int .i64 (x1 + (((x2 - x1) / (4 : Int)) * (1 : Int)))), (13, .int .i64 (x1 + (((x2 - x1) / (4 : Int)) * (2 : Int)))), (14, .int .i64 (x1 + (((x2 - x1) / (4 : Int)) * (3 : Int)))), (34, .bool (decide ((x2 - x1) ≥ (8 : Int))))], [(11, .cells 3 [.int .i64 (0 : Int)]), (2000, bL 28 1 eW 0#16 x3)], [2000], 0⟩ (True) Tryd_mixed (by kernel_rfl) trivial ?_
    refine thenQ_normal ?_
    refine AWp.cond (b := (decide ((x2 - x1) ≥ (8 : Int)))) (by kernel_rfl) (fun hc1 => ?_) (fun hc1 => ?_)
    ·
      replace h := ite_tb hc1 h
      obtain ⟨K2, hK2, h⟩ := jn_some h
      refine AWp.join (α := Int × Int × Int × Int × List (BitVec 16)) (fun (x : Int × Int × Int × Int × List (BitVec 16)) => match x with | (i7, i8, i9, i10, l11) => ⟨63, [(0, .own 2000), (3, .fn (.func 38) []), (11, .ptr 11 0), (12, .int .i64 i7), (13, .int .i64 i8), (14, .int .i64 i9)], [(11, .cells 3 [.int .i64 i10]), (2000, bL 28 1 eW 0#16 l11)], [2000], 0⟩) (fun x => K2 x = some r) ?_ ?_
      ·
        refine AWp.seq ?_
        refine AWp.regC [] [] [0, 3, 11, 12, 13, 14, 36] [11, 2000] ⟨63, [(0, .own 2000), (3, .fn (.func 38) []), (11, .ptr 11 0), (12, .int .i64 (x1 + (((x2 - x1) / (4 : Int)) * (1 : Int)))), (13, .int .i64 (x1 + (((x2 - x1) / (4 : Int)) * (2 : Int)))), (14, .int .i64 (x1 + (((x2 - x1) / (4 : Int)) * (3 : Int)))), (36, .bool (decide ((x2 - x1) ≥ (50 : Int))))], [(11, .cells 3 [.int .i64 (0 : Int)]), (2000, bL 28 1 eW 0#16 x3)], [2000], 0⟩ (True) Tryd_mixed (by kernel_rfl) trivial ?_
        refine thenQ_normal ?_
        refine AWp.cond (b := (decide ((x2 - x1) ≥ (50 : Int)))) (by kernel_rfl) (fun hc2 => ?_) (fun hc2 => ?_)
        ·
          replace h := ite_tb hc2 h
          refine AWp.seq ?_
          obtain ⟨r4, hr4, h⟩ := bind_ok h
          refine AWp.regC [] [(3, ⟨[.own 2000, .int .i64 (x1 + (((x2 - x1) / (4 : Int)) * (1 : Int))), .ptr 11 0, .fn (.func 38) []], [2000, 11], [2000, 11], [(2000, bL 28 1 eW 0#16 r4.2.1), (11, .cells 3 [.int .i64 r4.2.2])], .int .i64 r4.1, [], [], []⟩)] [0, 3, 11, 12, 13, 14] [11, 2000] ⟨63, [(0, .own 2000), (3, .fn (.func 38) []), (11, .ptr 11 0), (12, .int .i64 r4.1), (13, .int .i64 (x1 + (((x2 - x1) / (4 : Int)) * (2 : Int)))), (14, .int .i64 (x1 + (((x2 - x1) / (4 : Int)) * (3 : Int))))], [(11, .cells 3 [.int .i64 r4.2.2]), (2000, bL 28 1 eW 0#16 r4.2.1)], [2000], 0⟩ ((callP Tryd.prog true 113 [] [2000, 11] [(2000, bL 28 1 eW 0#16 x3), (11, .cells 3 [.int .i64 (0 : Int)])] [] [] [.own 2000, .int .i64 (x1 + (((x2 - x1) / (4 : Int)) * (1 : Int))), .ptr 11 0, .fn (.func 38) []] [.own 2000, .int .i64 (x1 + (((x2 - x1) / (4 : Int)) * (1 : Int))), .ptr 11 0, .fn (.func 38) []] (.int .i64 r4.1) [(2000, bL 28 1 eW 0#16 r4.2.1), (11, .cells 3 [.int .i64 r4.2.2])]) ∧ True) Tryd_mixed (by kernel_rfl) ⟨⟨fun _ => (Spec1.ren (swapN 2001 11) (swapN_inv 2001 11) rfl (f113_ok (x1 + (((x2 - x1) / (4 : Int)) * (1 : Int))) x3 (0 : Int) r4 hr4)), fun _ => ⟨.refl _, .refl _, .refl _, .refl _, trivial⟩, .inl rfl⟩, trivial⟩ ?_
          refine thenQ_normal ?_
          refine AWp.seq ?_
          obtain ⟨r5, hr5, h⟩ := bind_ok h
          refine AWp.regC [] [(3, ⟨[.own 2000, .int .i64 (x1 + (((x2 - x1) / (4 : Int)) * (2 : Int))), .ptr 11 0, .fn (.func 38) []], [2000, 11], [2000, 11], [(2000, bL 28 1 eW 0#16 r5.2.1), (11, .cells 3 [.int .i64 r5.2.2])], .int .i64 r5.1, [], [], []⟩)] [0, 3, 11, 12, 13, 14] [11, 2000] ⟨63, [(0, .own 2000), (3, .fn (.func 38) []), (11, .ptr 11 0), (12, .int .i64 r4.1), (13, .int .i64 r5.1), (14, .int .i64 (x1 + (((x2 - x1) / (4 : Int)) * (3 : Int))))], [(11, .cells 3 [.int .i64 r5.2.2]), (2000, bL 28 1 eW 0#16 r5.2.1)], [2000], 0⟩ ((callP Tryd.prog true 113 [] [2000, 11] [(2000, bL 28 1 eW 0#16 r4.2.1), (11, .cells 3 [.int .i64 r4.2.2])] [] [] [.own 2000, .int .i64 (x1 + (((x2 - x1) / (4 : Int)) * (2 : Int))), .ptr 11 0, .fn (.func 38) []] [.own 2000, .int .i64 (x1 + (((x2 - x1) / (4 : Int)) * (2 : Int))), .ptr 11 0, .fn (.func 38) []] (.int .i64 r5.1) [(2000, bL 28 1 eW 0#16 r5.2.1), (11, .cells 3 [.int .i64 r5.2.2])]) ∧ True) Tryd_mixed (by kernel_rfl) ⟨⟨fun _ => (Spec1.ren (swapN 2001 11) (swapN_inv 2001 11) rfl (f113_ok (x1 + (((x2 - x1) / (4 : Int)) * (2 : Int))) r4.2.1 r4.2.2 r5 hr5)), fun _ => ⟨.refl _, .refl _, .refl _, .refl _, trivial⟩, .inl rfl⟩, trivial⟩ ?_
          refine thenQ_normal ?_
          obtain ⟨r6, hr6, h⟩ := bind_ok h
          refine AWp.regC [] [(3, ⟨[.own 2000, .int .i64 (x1 + (((x2 - x1) / (4 : Int)) * (3 : Int))), .ptr 11 0, .fn (.func 38) []], [2000, 11], [2000, 11], [(2000, bL 28 1 eW 0#16 r6.2.1), (11, .cells 3 [.int .i64 r6.2.2])], .int .i64 r6.1, [], [], []⟩)] [0, 3, 11, 12, 13, 14] [11, 2000] ⟨63, [(0, .own 2000), (3, .fn (.func 38) []), (11, .ptr 11 0), (12, .int .i64 r4.1), (13, .int .i64 r5.1), (14, .int .i64 r6.1)], [(11, .cells 3 [.int .i64 r6.2.2]), (2000, bL 28 1 eW 0#16 r6.2.1)], [2000], 0⟩ ((callP Tryd.prog true 113 [] [2000, 11] [(2000, bL 28 1 eW 0#16 r5.2.1), (11, .cells 3 [.int .i64 r5.2.2])] [] [] [.own 2000, .int .i64 (x1 + (((x2 - x1) / (4 : Int)) * (3 : Int))), .ptr 11 0, .fn (.func 38) []] [.own 2000, .int .i64 (x1 + (((x2 - x1) / (4 : Int)) * (3 : Int))), .ptr 11 0, .fn (.func 38) []] (.int .i64 r6.1) [(2000, bL 28 1 eW 0#16 r6.2.1), (11, .cells 3 [.int .i64 r6.2.2])]) ∧ True) Tryd_mixed (by kernel_rfl) ⟨⟨fun _ => (Spec1.ren (swapN 2001 11) (swapN_inv 2001 11) rfl (f113_ok (x1 + (((x2 - x1) / (4 : Int)) * (3 : Int))) r5.2.1 r5.2.2 r6 hr6)), fun _ => ⟨.refl _, .refl _, .refl _, .refl _, trivial⟩, .inl rfl⟩, trivial⟩ ?_
          exact joinQ_normal (r4.1, r5.1, r6.1, r6.2.2, r6.2.1) (Le.mk (s := ⟨63, [(0, .own 2000), (3, .fn (.func 38) []), (11, .ptr 11 0), (12, .int .i64 r4.1), (13, .int .i64 r5.1), (14, .int .i64 r6.1)], [(11, .cells 3 [.int .i64 r6.2.2]), (2000, bL 28 1 eW 0#16 r6.2.1)], [2000], 0⟩) (s' := ⟨63, [(0, .own 2000), (3, .fn (.func 38) []), (11, .ptr 11 0), (12, .int .i64 r4.1), (13, .int .i64 r5.1), (14, .int .i64 r6.1)], [(11, .cells 3 [.int .i64 r6.2.2]), (2000, bL 28 1 eW 0#16 r6.2.1)], [2000], 0⟩) rfl rfl ⟨.refl _, .refl _, .refl _, .refl _, .refl _, .refl _, trivial⟩ ⟨⟨_, rfl, .refl _⟩, ⟨_, rfl, .refl _⟩, trivial⟩) h
        ·
          replace h := ite_fb hc2 h
          refine AWp.skip ?_
          exact joinQ_normal ((x1 + (((x2 - x1) / (4 : Int)) * (1 : Int))), (x1 + (((x2 - x1) / (4 : Int)) * (2 : Int))), (x1 + (((x2 - x1) / (4 : Int)) * (3 : Int))), (0 : Int), x3) (Le.mk (s := ⟨63, [(0, .own 2000), (3, .fn (.func 38) []), (11, .ptr 11 0), (12, .int .i64 (x1 + (((x2 - x1) / (4 : Int)) * (1 : Int)))), (13, .int .i64 (x1 + (((x2 - x1) / (4 : Int)) * (2 : Int)))), (14, .int .i64 (x1 + (((x2 - x1) / (4 : Int)) * (3 : Int)))), (36, .bool (decide ((x2 - x1) ≥ (50 : Int))))], [(11, .cells 3 [.int .i64 (0 : Int)]), (2000, bL 28 1 eW 0#16 x3)], [2000], 0⟩) (s' := ⟨63, [(0, .own 2000), (3, .fn (.func 38) []), (11, .ptr 11 0), (12, .int .i64 (x1 + (((x2 - x1) / (4 : Int)) * (1 : Int)))), (13, .int .i64 (x1 + (((x2 - x1) / (4 : Int)) * (2 : Int)))), (14, .int .i64 (x1 + (((x2 - x1) / (4 : Int)) * (3 : Int))))], [(11, .cells 3 [.int .i64 (0 : Int)]), (2000, bL 28 1 eW 0#16 x3)], [2000], 0⟩) rfl rfl ⟨.refl _, .refl _, .refl _, .refl _, .refl _, .refl _, trivial⟩ ⟨⟨_, rfl, .refl _⟩, ⟨_, rfl, .refl _⟩, trivial⟩) h
      ·
        rintro ⟨i7, i8, i9, i10, l11⟩ h
        replace h := (congrFun hK2 _).symm.trans h
        obtain ⟨r12, hr12, h⟩ := bind_ok h
        refine AWp.regC [] [(5, ⟨[.own 2000, .int .i64 i7, .int .i64 i8, .int .i64 i9, .ptr 11 0, .fn (.func 38) []], [2000, 11], [2000, 11], [(2000, bL 28 1 eW 0#16 r12.2.1), (11, .cells 3 [.int .i64 r12.2.2])], .int .i64 r12.1, [], [], []⟩)] [11, 13] [11, 2000] ⟨63, [(11, .ptr 11 0), (13, .int .i64 r12.1)], [(11, .cells 3 [.int .i64 r12.2.2]), (2000, bL 28 1 eW 0#16 r12.2.1)], [2000], 0⟩ ((callP Tryd.prog true 114 [] [2000, 11] [(2000, bL 28 1 eW 0#16 l11), (11, .cells 3 [.int .i64 i10])] [] [] [.own 2000, .int .i64 i7, .int .i64 i8, .int .i64 i9, .ptr 11 0, .fn (.func 38) []] [.own 2000, .int .i64 i7, .int .i64 i8, .int .i64 i9, .ptr 11 0, .fn (.func 38) []] (.int .i64 r12.1) [(2000, bL 28 1 eW 0#16 r12.2.1), (11, .cells 3 [.int .i64 r12.2.2])]) ∧ True) Tryd_mixed (by kernel_rfl) ⟨⟨fun _ => (Spec1.ren (swapN 2001 11) (swapN_inv 2001 11) rfl (f114_ok i7 i8 i9 l11 i10 r12 hr12)), fun _ => ⟨.refl _, .refl _, .refl _, .refl _, .refl _, .refl _, trivial⟩, .inl rfl⟩, trivial⟩ ?_
        exact joinQ_normal (r12.1, r12.2.2, r12.2.1) (Le.mk (s := ⟨63, [(11, .ptr 11 0), (13, .int .i64 r12.1)], [(11, .cells 3 [.int .i64 r12.2.2]), (2000, bL 28 1 eW 0#16 r12.2.1)], [2000], 0⟩) (s' := ⟨63, [(11, .ptr 11 0), (13, .int .i64 r12.1)], [(11, .cells 3 [.int .i64 r12.2.2]), (2000, bL 28 1 eW 0#16 r12.2.1)], [2000], 0⟩) rfl rfl ⟨.refl _, .refl _, trivial⟩ ⟨⟨_, rfl, .refl _⟩, ⟨_, rfl, .refl _⟩, trivial⟩) h
    ·
      replace h := ite_fb hc1 h
      refine AWp.skip ?_
      exact joinQ_normal ((x1 + (((x2 - x1) / (4 : Int)) * (2 : Int))), (0 : Int), x3) (Le.mk (s := ⟨63, [(0, .own 2000), (3, .fn (.func 38) []), (10, .int .i64 (x2 - x1)), (11, .ptr 11 0), (12, .int .i64 (x1 + (((x2 - x1) / (4 : Int)) * (1 : Int)))), (13, .int .i64 (x1 + (((x2 - x1) / (4 : Int)) * (2 : Int)))), (14, .int .i64 (x1 + (((x2 - x1) / (4 : Int)) * (3 : Int)))), (34, .bool (decide ((x2 - x1) ≥ (8 : Int))))], [(11, .cells 3 [.int .i64 (0 : Int)]), (2000, bL 28 1 eW 0#16 x3)], [2000], 0⟩) (s' := ⟨63, [(11, .ptr 11 0), (13, .int .i64 (x1 + (((x2 - x1) / (4 : Int)) * (2 : Int))))], [(11, .cells 3 [.int .i64 (0 : Int)]), (2000, bL 28 1 eW 0#16 x3)], [2000], 0⟩) rfl rfl ⟨.refl _, .refl _, trivial⟩ ⟨⟨_, rfl, .refl _⟩, ⟨_, rfl, .refl _⟩, trivial⟩) h
  ·
    rintro ⟨i13, i14, l15⟩ h
    replace h := (congrFun hK1 _).symm.trans h
    refine AWp.seq ?_
    refine AWp.regC [] [] [13, 55] [2000] ⟨63, [(13, .int .i64 i13), (55, .int .i64 i14)], [(2000, bL 28 1 eW 0#16 l15)], [2000], 0⟩ (True) Tryd_mixed (by kernel_rfl) trivial ?_
    refine thenQ_normal ?_
    refine AWp.block ?_
    refine AWp.seq ?_
    refine AWp.regC [] [] [13, 55, 57] [2000] ⟨63, [(13, .int .i64 i13), (55, .int .i64 i14), (57, .bool (i14 == (0 : Int)))], [(2000, bL 28 1 eW 0#16 l15)], [2000], 0⟩ (True) Tryd_mixed (by kernel_rfl) trivial ?_
    refine thenQ_normal ?_
    refine AWp.cond (b := (i14 == (0 : Int))) (by kernel_rfl) (fun hc3 => ?_) (fun hc3 => ?_)
    ·
      replace h := ite_tb hc3 h
      refine AWp.seq ?_
      refine AWp.regC [] [] [8, 9] [2000] ⟨63, [(8, .int .i64 i13), (9, .int .i64 (1 : Int))], [(2000, bL 28 1 eW 0#16 l15)], [2000], 0⟩ (True) Tryd_mixed (by kernel_rfl) trivial ?_
      refine thenQ_normal ?_
      have hret := Option.some.inj h
      subst hret
      refine AWp.le (Le.mk (s := ⟨63, [(8, .int .i64 i13), (9, .int .i64 (1 : Int))], [(2000, bL 28 1 eW 0#16 l15)], [2000], 0⟩) (s' := ⟨63, [(8, .int .i64 i13), (9, .int .i64 (1 : Int))], [(2000, bL 28 1 eW 0#16 l15)], [2000], 0⟩) rfl rfl ⟨.refl _, .refl _, trivial⟩ ⟨⟨_, rfl, .refl _⟩, trivial⟩) ?_
      refine AWp.ret ?_
      refine blockQ_ret ?_
      exact bodyQ_ret _ rfl ⟨rfl, rfl⟩ rfl
    ·
      replace h := ite_fb hc3 h
      refine AWp.seq ?_
      refine AWp.regC [] [] [13, 60] [2000] ⟨63, [(13, .int .i64 i13), (60, .bool (i14 == (12 : Int)))], [(2000, bL 28 1 eW 0#16 l15)], [2000], 0⟩ (True) Tryd_mixed (by kernel_rfl) trivial ?_
      refine thenQ_normal ?_
      refine AWp.cond (b := (i14 == (12 : Int))) (by kernel_rfl) (fun hc4 => ?_) (fun hc4 => ?_)
      ·
        replace h := ite_tb hc4 h
        refine AWp.seq ?_
        refine AWp.regC [] [] [8, 9] [2000] ⟨63, [(8, .int .i64 i13), (9, .int .i64 (2 : Int))], [(2000, bL 28 1 eW 0#16 l15)], [2000], 0⟩ (True) Tryd_mixed (by kernel_rfl) trivial ?_
        refine thenQ_normal ?_
        have hret := Option.some.inj h
        subst hret
        refine AWp.le (Le.mk (s := ⟨63, [(8, .int .i64 i13), (9, .int .i64 (2 : Int))], [(2000, bL 28 1 eW 0#16 l15)], [2000], 0⟩) (s' := ⟨63, [(8, .int .i64 i13), (9, .int .i64 (2 : Int))], [(2000, bL 28 1 eW 0#16 l15)], [2000], 0⟩) rfl rfl ⟨.refl _, .refl _, trivial⟩ ⟨⟨_, rfl, .refl _⟩, trivial⟩) ?_
        refine AWp.ret ?_
        refine blockQ_ret ?_
        exact bodyQ_ret _ rfl ⟨rfl, rfl⟩ rfl
      ·
        replace h := ite_fb hc4 h
        refine AWp.seq ?_
        refine AWp.regC [] [] [8, 9] [2000] ⟨63, [(8, .int .i64 i13), (9, .int .i64 (0 : Int))], [(2000, bL 28 1 eW 0#16 l15)], [2000], 0⟩ (True) Tryd_mixed (by kernel_rfl) trivial ?_
        refine thenQ_normal ?_
        have hret := Option.some.inj h
        subst hret
        refine AWp.le (Le.mk (s := ⟨63, [(8, .int .i64 i13), (9, .int .i64 (0 : Int))], [(2000, bL 28 1 eW 0#16 l15)], [2000], 0⟩) (s' := ⟨63, [(8, .int .i64 i13), (9, .int .i64 (0 : Int))], [(2000, bL 28 1 eW 0#16 l15)], [2000], 0⟩) rfl rfl ⟨.refl _, .refl _, trivial⟩ ⟨⟨_, rfl, .refl _⟩, trivial⟩) ?_
        refine AWp.ret ?_
        refine blockQ_ret ?_
        exact bodyQ_ret _ rfl ⟨rfl, rfl⟩ rfl
def f100_L0 : Nat → (Int × Int × List (BitVec 16)) → Option (List (BitVec 16))
  | 0, _ => none
  | k + 1, (i4, i5, l6) =>
    if (decide (i4 < i5)) then (
    chk (0 ≤ i5 ∧ i5 < (((l6).length : Nat) : Int)) <|
    chk (((i5).toNat) < (l6).length) <|
    chk (0 ≤ i4 ∧ i4 < (((l6).length : Nat) : Int)) <|
    chk (((i4).toNat) < (l6).length) <|
    chk (0 ≤ i4 ∧ i4 < (((l6).length : Nat) : Int)) <|
    chk (((i4).toNat) < (l6).length) <|
    chk (0 ≤ i5 ∧ i5 < (((l6).length : Nat) : Int)) <|
    chk (((i5).toNat) < (l6).length) <|
    chk (-9223372036854775808 ≤ (i4 + (1 : Int)) ∧ (i4 + (1 : Int)) ≤ 9223372036854775807) <|
    chk (-9223372036854775808 ≤ (i5 - (1 : Int)) ∧ (i5 - (1 : Int)) ≤ 9223372036854775807) <|
    (f100_L0 k) ((i4 + (1 : Int)), (i5 - (1 : Int)), ((l6.set ((i4).toNat) (l6.getD ((i5).toNat) 0#16)).set ((i5).toNat) (l6.getD ((i4).toNat) 0#16)))
    ) else (
    some l6
    )
def f100 (x1 : Int) (x2 : Int) (x3 : List (BitVec 16)) : Option (List (BitVec 16)) :=
  chk (-9223372036854775808 ≤ (x2 - (1 : Int)) ∧ (x2 - (1 : Int)) ≤ 9223372036854775807) <|
  f100_L0 FUEL (x1, (x2 - (1 : Int)), x3)
set_option maxRecDepth 100000 in
theorem f100_ok  (x1 : Int) (x2 : Int) (x3 : List (BitVec 16)) (r : List (BitVec 16)) (h : f100 x1 x2 x3 = some r)  : Spec1 Tryd.prog 100 [] [2000] [(2000, bL 28 1 eW 0#16 x3)] [.own 2000, .int .i64 x1, .int .i64 x2, .fn (.func 38) []] (.tup []) [(2000, bL 28 1 eW 0#16 r)] := by
  unfold f100 at h
  refine Spec1.body 0 _ _ Tryd.func100 rfl Tryd.ntmps100 rfl rfl ?_
  refine AWp.seq ?_
  refine AWp.regC [] [] [0, 2, 8] [2000] ⟨34, [(0, .own 2000), (2, .int .i64 x2), (8, .int .i64 x1)], [(2000, bL 28 1 eW 0#16 x3)], [2000], 0⟩ (True) Tryd_mixed (by kernel_rfl) trivial ?_
  refine thenQ_normal ?_
  refine AWp.seq ?_
  obtain ⟨ob0, h⟩ := chk_some h
  refine AWp.regC [] [] [0, 8, 9] [2000] ⟨34, [(0, .own 2000), (8, .int .i64 x1), (9, .int .i64 (x2 - (1 : Int)))], [(2000, bL 28 1 eW 0#16 x3)], [2000], 0⟩ ((-9223372036854775808 ≤ (x2 - (1 : Int)) ∧ (x2 - (1 : Int)) ≤ 9223372036854775807) ∧ True) Tryd_mixed (by kernel_rfl) ⟨ob0, trivial⟩ ?_
  refine thenQ_normal ?_
  refine AWp.block ?_
  refine AWp.loopL (α := Nat × (Int × Int × List (BitVec 16))) (fun x => match x with | (_, i4, i5, l6) => ⟨34, [(0, .own 2000), (8, .int .i64 i4), (9, .int .i64 i5)], [(2000, bL 28 1 eW 0#16 l6)], [2000], 0⟩) (fun x => f100_L0 x.1 x.2 = some r) (fun x => x.1) (FUEL, x1, (x2 - (1 : Int)), x3) (Le.mk (s := ⟨34, [(0, .own 2000), (8, .int .i64 x1), (9, .int .i64 (x2 - (1 : Int)))], [(2000, bL 28 1 eW 0#16 x3)], [2000], 0⟩) (s' := ⟨34, [(0, .own 2000), (8, .int .i64 x1), (9, .int .i64 (x2 - (1 : Int)))], [(2000, bL 28 1 eW 0#16 x3)], [2000], 0⟩) rfl rfl ⟨.refl _, .refl _, .refl _, trivial⟩ ⟨⟨_, rfl, .refl _⟩, trivial⟩) h ?_
  rintro ⟨k0, i4, i5, l6⟩ h
  cases k0 with
  | zero => exact nomatch (show (none : Option (List (BitVec 16))) = some r from h)
  | succ k0 =>
  obtain ⟨C0, hC0⟩ : ∃ C, C = f100_L0 k0 := ⟨_, rfl⟩
  replace h := (f100_L0.eq_2 ..).symm.trans h
  try rw [← hC0] at h
  refine AWp.seq ?_
  refine AWp.seq ?_
  refine AWp.regC [] [] [0, 8, 9, 15] [2000] ⟨34, [(0, .own 2000), (8, .int .i64 i4), (9, .int .i64 i5), (15, .bool (decide (i4 < i5)))], [(2000, bL 28 1 eW 0#16 l6)], [2000], 0⟩ (True) Tryd_mixed (by kernel_rfl) trivial ?_
  refine thenQ_normal ?_
  refine AWp.cond (b := (decide (i4 < i5))) (by kernel_rfl) (fun hc1 => ?_) (fun hc1 => ?_)
  ·
    replace h := ite_tb hc1 h
    refine AWp.skip ?_
    refine thenQ_normal ?_
    refine AWp.block ?_
    refine AWp.seq ?_
    obtain ⟨ob1, h⟩ := chk_some h
    obtain ⟨ob2, h⟩ := chk_some h
    obtain ⟨ob3, h⟩ := chk_some h
    obtain ⟨ob4, h⟩ := chk_some h
    obtain ⟨ob5, h⟩ := chk_some h
    obtain ⟨ob6, h⟩ := chk_some h
    obtain ⟨ob7, h⟩ := chk_some h
    obtain ⟨ob8, h⟩ := chk_some h
    refine AWp.regC [] [] [0, 8, 9] [2000] ⟨34, [(0, .own 2000), (8, .int .i64 i4), (9, .int .i64 i5)], [(2000, .rows 28 1 (l6).length (updF (updF (encF eW 0#16 l6) ((i4).toNat) 0 [.b16 (l6.getD ((i5).toNat) 0#16)]) ((i5).toNat) 0 [.b16 (l6.getD ((i4).toNat) 0#16)]))], [2000], 0⟩ ((0 ≤ i5 ∧ i5 < (((l6).length : Nat) : Int)) ∧ (((i5).toNat) < (l6).length) ∧ (0 ≤ i4 ∧ i4 < (((l6).length : Nat) : Int)) ∧ (((i4).toNat) < (l6).length) ∧ (0 ≤ i4 ∧ i4 < (((l6).length : Nat) : Int)) ∧ (((i4).toNat) < (l6).length) ∧ (0 ≤ i5 ∧ i5 < (((l6).length : Nat) : Int)) ∧ (((i5).toNat) < (l6).length) ∧ True) Tryd_mixed (by kernel_rfl) ⟨ob1, ob2, ob3, ob4, ob5, ob6, ob7, ob8, trivial⟩ ?_
    refine thenQ_normal ?_
    refine AWp.le (Le.mk (s := ⟨34, [(0, .own 2000), (8, .int .i64 i4), (9, .int .i64 i5)], [(2000, .rows 28 1 (l6).length (updF (updF (encF eW 0#16 l6) ((i4).toNat) 0 [.b16 (l6.getD ((i5).toNat) 0#16)]) ((i5).toNat) 0 [.b16 (l6.getD ((i4).toNat) 0#16)]))], [2000], 0⟩) (s' := ⟨34, [(0, .own 2000), (8, .int .i64 i4), (9, .int .i64 i5)], [(2000, bL 28 1 eW 0#16 ((l6.set ((i4).toNat) (l6.getD ((i5).toNat) 0#16)).set ((i5).toNat) (l6.getD ((i4).toNat) 0#16)))], [2000], 0⟩) rfl rfl ⟨.refl _, .refl _, .refl _, trivial⟩ ⟨⟨_, rfl, (BLe.of (RL.set (l6.getD ((i4).toNat) 0#16) (RL.set (l6.getD ((i5).toNat) 0#16) (RL.self _) (by intro j hj; match j, hj with | 0, _ => rfl)) (by intro j hj; match j, hj with | 0, _ => rfl)))⟩, trivial⟩) ?_
    refine AWp.seq ?_
    obtain ⟨ob9, h⟩ := chk_some h
    refine AWp.regC [] [] [0, 8, 9] [2000] ⟨34, [(0, .own 2000), (8, .int .i64 (i4 + (1 : Int))), (9, .int .i64 i5)], [(2000, bL 28 1 eW 0#16 ((l6.set ((i4).toNat) (l6.getD ((i5).toNat) 0#16)).set ((i5).toNat) (l6.getD ((i4).toNat) 0#16)))], [2000], 0⟩ ((-9223372036854775808 ≤ (i4 + (1 : Int)) ∧ (i4 + (1 : Int)) ≤ 9223372036854775807) ∧ True) Tryd_mixed (by kernel_rfl) ⟨ob9, trivial⟩ ?_
    refine thenQ_normal ?_
    obtain ⟨ob10, h⟩ := chk_some h
    refine AWp.regC [] [] [0, 8, 9] [2000] ⟨34, [(0, .own 2000), (8, .int .i64 (i4 + (1 : Int))), (9, .int .i64 (i5 - (1 : Int)))], [(2000, bL 28 1 eW 0#16 ((l6.set ((i4).toNat) (l6.getD ((i5).toNat) 0#16)).set ((i5).toNat) (l6.getD ((i4).toNat) 0#16)))], [2000], 0⟩ ((-9223372036854775808 ≤ (i5 - (1 : Int)) ∧ (i5 - (1 : Int)) ≤ 9223372036854775807) ∧ True) Tryd_mixed (by kernel_rfl) ⟨ob10, trivial⟩ ?_
    refine blockQ_normal ?_
    rw [hC0] at h
    exact loopQ_normal (_, (i4 + (1 : Int)), (i5 - (1 : Int)), ((l6.set ((i4).toNat) (l6.getD ((i5).toNat) 0#16)).set ((i5).toNat) (l6.getD ((i4).toNat) 0#16))) (Le.mk (s := ⟨34, [(0, .own 2000), (8, .int .i64 (i4 + (1 : Int))), (9, .int .i64 (i5 - (1 : Int)))], [(2000, bL 28 1 eW 0#16 ((l6.set ((i4).toNat) (l6.getD ((i5).toNat) 0#16)).set ((i5).toNat) (l6.getD ((i4).toNat) 0#16)))], [2000], 0⟩) (s' := ⟨34, [(0, .own 2000), (8, .int .i64 (i4 + (1 : Int))), (9, .int .i64 (i5 - (1 : Int)))], [(2000, bL 28 1 eW 0#16 ((l6.set ((i4).toNat) (l6.getD ((i5).toNat) 0#16)).set ((i5).toNat) (l6.getD ((i4).toNat) 0#16)))], [2000], 0⟩) rfl rfl ⟨.refl _, .refl _, .refl _, trivial⟩ ⟨⟨_, rfl, .refl _⟩, trivial⟩) h (Nat.lt_succ_self _)
  ·
    replace h := ite_fb hc1 h
    refine AWp.exit ?_
    refine thenQ_exit ?_
    refine thenQ_exit ?_
    refine blockQ_same ?_
    have hret := Option.some.inj h
    subst hret
    exact bodyQ_le (Le.mk (s := ⟨34, [(0, .own 2000), (8, .int .i64 i4), (9, .int .i64 i5), (15, .bool (decide (i4 < i5)))], [(2000, bL 28 1 eW 0#16 l6)], [2000], 0⟩) (s' := ⟨34, [], [(2000, bL 28 1 eW 0#16 l6)], [2000], 0⟩) rfl rfl trivial ⟨⟨_, rfl, .refl _⟩, trivial⟩) (bodyQ_normal _ rfl ⟨rfl, rfl⟩ rfl)
def f101_L1 (x2 : Int) (l6 : List (BitVec 16)) (K3 : Int → Option (Bool × List (BitVec 16))) : Nat → Int → Option (Bool × List (BitVec 16))
  | 0, _ => none
  | k + 1, i7 =>
    optc ((decide (i7 < x2)) == true) (f38 (l6.getD ((i7).toNat) 0#16) (l6.getD (((i7 - (1 : Int))).toNat) 0#16)) fun (r8 : Int) =>
    chk (((decide (i7 < x2)) == true) = true → 0 ≤ i7 ∧ i7 < (((l6).length : Nat) : Int)) <|
    chk (((decide (i7 < x2)) == true) = true → ((i7).toNat) < (l6).length) <|
    chk (((decide (i7 < x2)) == true) = true → -9223372036854775808 ≤ (i7 - (1 : Int)) ∧ (i7 - (1 : Int)) ≤ 9223372036854775807) <|
    chk (((decide (i7 < x2)) == true) = true → 0 ≤ (i7 - (1 : Int)) ∧ (i7 - (1 : Int)) < (((l6).length : Nat) : Int)) <|
    chk (((decide (i7 < x2)) == true) = true → (((i7 - (1 : Int))).toNat) < (l6).length) <|
    if ((decide (i7 < x2)) && (!(decide (r8 < (0 : Int))))) then (
    chk (-9223372036854775808 ≤ (i7 + (1 : Int)) ∧ (i7 + (1 : Int)) ≤ 9223372036854775807) <|
    (f101_L1 x2 l6 K3 k) (i7 + (1 : Int))
    ) else (
    K3 i7
    )
def f101_L2 (K4 : (List (BitVec 16)) → Option (Bool × List (BitVec 16))) : Nat → (Int × List (BitVec 16)) → Option (Bool × List (BitVec 16))
  | 0, _ => none
  | k + 1, (i10, l11) =>
    if (decide (i10 ≥ (1 : Int))) then (
    (f38 (l11.getD ((i10).toNat) 0#16) (l11.getD (((i10 - (1 : Int))).toNat) 0#16)).bind fun (r12 : Int) =>
    chk (0 ≤ i10 ∧ i10 < (((l11).length : Nat) : Int)) <|
    chk (((i10).toNat) < (l11).length) <|
    chk (-9223372036854775808 ≤ (i10 - (1 : Int)) ∧ (i10 - (1 : Int)) ≤ 9223372036854775807) <|
    chk (0 ≤ (i10 - (1 : Int)) ∧ (i10 - (1 : Int)) < (((l11).length : Nat) : Int)) <|
    chk ((((i10 - (1 : Int))).toNat) < (l11).length) <|
    if (!(decide (r12 < (0 : Int)))) then (
    K4 l11
    ) else (
    chk (-9223372036854775808 ≤ (i10 - (1 : Int)) ∧ (i10 - (1 : Int)) ≤ 9223372036854775807) <|
    chk (-9223372036854775808 ≤ (i10 - (1 : Int)) ∧ (i10 - (1 : Int)) ≤ 9223372036854775807) <|
    chk (0 ≤ (i10 - (1 : Int)) ∧ (i10 - (1 : Int)) < (((l11).length : Nat) : Int)) <|
    chk ((((i10 - (1 : Int))).toNat) < (l11).length) <|
    chk (0 ≤ i10 ∧ i10 < (((l11).length : Nat) : Int)) <|
    chk (((i10).toNat) < (l11).length) <|
    chk (0 ≤ i10 ∧ i10 < (((l11).length : Nat) : Int)) <|
    chk (((i10).toNat) < (l11).length) <|
    chk (0 ≤ (i10 - (1 : Int)) ∧ (i10 - (1 : Int)) < (((l11).length : Nat) : Int)) <|
    chk ((((i10 - (1 : Int))).toNat) < (l11).length) <|
    chk (-9223372036854775808 ≤ (i10 - (1 : Int)) ∧ (i10 - (1 : Int)) ≤ 9223372036854775807) <|
    (f101_L2 K4 k) ((i10 - (1 : Int)), ((l11.set ((i10).toNat) (l11.getD (((i10 - (1 : Int))).toNat) 0#16)).set (((i10 - (1 : Int))).toNat) (l11.getD ((i10).toNat) 0#16)))
    )
    ) else (
    K4 l11
    )
def f101_L3 (x2 : Int) (K2 : (Int × List (BitVec 16)) → Option (Bool × List (BitVec 16))) (i9 : Int) : Nat → (Int × List (BitVec 16)) → Option (Bool × List (BitVec 16))
  | 0, _ => none
  | k + 1, (i14, l15) =>
    if (decide (i14 < x2)) then (
    (f38 (l15.getD ((i14).toNat) 0#16) (l15.getD (((i14 - (1 : Int))).toNat) 0#16)).bind fun (r16 : Int) =>
    chk (0 ≤ i14 ∧ i14 < (((l15).length : Nat) : Int)) <|
    chk (((i14).toNat) < (l15).length) <|
    chk (-9223372036854775808 ≤ (i14 - (1 : Int)) ∧ (i14 - (1 : Int)) ≤ 9223372036854775807) <|
    chk (0 ≤ (i14 - (1 : Int)) ∧ (i14 - (1 : Int)) < (((l15).length : Nat) : Int)) <|
    chk ((((i14 - (1 : Int))).toNat) < (l15).length) <|
    if (!(decide (r16 < (0 : Int)))) then (
    K2 (i9, l15)
    ) else (
    chk (-9223372036854775808 ≤ (i14 - (1 : Int)) ∧ (i14 - (1 : Int)) ≤ 9223372036854775807) <|
    chk (-9223372036854775808 ≤ (i14 - (1 : Int)) ∧ (i14 - (1 : Int)) ≤ 9223372036854775807) <|
    chk (0 ≤ (i14 - (1 : Int)) ∧ (i14 - (1 : Int)) < (((l15).length : Nat) : Int)) <|
    chk ((((i14 - (1 : Int))).toNat) < (l15).length) <|
    chk (0 ≤ i14 ∧ i14 < (((l15).length : Nat) : Int)) <|
    chk (((i14).toNat) < (l15).length) <|
    chk (0 ≤ i14 ∧ i14 < (((l15).length : Nat) : Int)) <|
    chk (((i14).toNat) < (l15).length) <|
    chk (0 ≤ (i14 - (1 : Int)) ∧ (i14 - (1 : Int)) < (((l15).length : Nat) : Int)) <|
    chk ((((i14 - (1 : Int))).toNat) < (l15).length) <|
    chk (-9223372036854775808 ≤ (i14 + (1 : Int)) ∧ (i14 + (1 : Int)) ≤ 9223372036854775807) <|
    (f101_L3 x2 K2 i9 k) ((i14 + (1 : Int)), ((l15.set ((i14).toNat) (l15.getD (((i14 - (1 : Int))).toNat) 0#16)).set (((i14 - (1 : Int))).toNat) (l15.getD ((i14).toNat) 0#16)))
    )
    ) else (
    K2 (i9, l15)
    )
def f101_L0 (x1 : Int) (x2 : Int) (K1 : (List (BitVec 16)) → Option (Bool × List (BitVec 16))) : Nat → (Int × Nat × List (BitVec 16)) → Option (Bool × List (BitVec 16))
  | 0, _ => none
  | k + 1, (i4, n5, l6) =>
    if (decide (((n5 : Nat) : Int) < (5 : Int))) then (
    jn (fun ((i17, l18) : Int × List (BitVec 16)) =>
    chk ((((n5 : Nat) : Int) + (1 : Int)) ≤ 9223372036854775807) <|
    (f101_L0 x1 x2 K1 k) (i17, (n5 + 1), l18)
    ) fun (K2 : (Int × List (BitVec 16)) → Option (Bool × List (BitVec 16))) =>
    jn (fun (i9 : Int) =>
    if (i9 == x2) then (
    some (true, l6)
    ) else (
    chk (-9223372036854775808 ≤ (x2 - x1) ∧ (x2 - x1) ≤ 9223372036854775807) <|
    if (decide ((x2 - x1) < (50 : Int))) then (
    some (false, l6)
    ) else (
    chk (-9223372036854775808 ≤ (i9 - (1 : Int)) ∧ (i9 - (1 : Int)) ≤ 9223372036854775807) <|
    chk (-9223372036854775808 ≤ (i9 - (1 : Int)) ∧ (i9 - (1 : Int)) ≤ 9223372036854775807) <|
    chk (0 ≤ (i9 - (1 : Int)) ∧ (i9 - (1 : Int)) < (((l6).length : Nat) : Int)) <|
    chk ((((i9 - (1 : Int))).toNat) < (l6).length) <|
    chk (0 ≤ i9 ∧ i9 < (((l6).length : Nat) : Int)) <|
    chk (((i9).toNat) < (l6).length) <|
    chk (0 ≤ i9 ∧ i9 < (((l6).length : Nat) : Int)) <|
    chk (((i9).toNat) < (l6).length) <|
    chk (0 ≤ (i9 - (1 : Int)) ∧ (i9 - (1 : Int)) < (((l6).length : Nat) : Int)) <|
    chk ((((i9 - (1 : Int))).toNat) < (l6).length) <|
    jn (fun (l13 : List (BitVec 16)) =>
    chk (-9223372036854775808 ≤ (x2 - i9) ∧ (x2 - i9) ≤ 9223372036854775807) <|
    if (decide ((x2 - i9) ≥ (2 : Int))) then (
    chk (-9223372036854775808 ≤ (i9 + (1 : Int)) ∧ (i9 + (1 : Int)) ≤ 9223372036854775807) <|
    f101_L3 x2 K2 i9 FUEL ((i9 + (1 : Int)), l13)
    ) else (
    K2 (i9, l13)
    )
    ) fun (K4 : (List (BitVec 16)) → Option (Bool × List (BitVec 16))) =>
    chk (-9223372036854775808 ≤ (i9 - x1) ∧ (i9 - x1) ≤ 9223372036854775807) <|
    if (decide ((i9 - x1) ≥ (2 : Int))) then (
    chk (-9223372036854775808 ≤ (i9 - (1 : Int)) ∧ (i9 - (1 : Int)) ≤ 9223372036854775807) <|
    f101_L2 K4 FUEL ((i9 - (1 : Int)), ((l6.set ((i9).toNat) (l6.getD (((i9 - (1 : Int))).toNat) 0#16)).set (((i9 - (1 : Int))).toNat) (l6.getD ((i9).toNat) 0#16)))
    ) else (
    K4 ((l6.set ((i9).toNat) (l6.getD (((i9 - (1 : Int))).toNat) 0#16)).set (((i9 - (1 : Int))).toNat) (l6.getD ((i9).toNat) 0#16))
    )
    )
    )
    ) fun (K3 : Int → Option (Bool × List (BitVec 16))) =>
    f101_L1 x2 l6 K3 FUEL i4
    ) else (
    K1 l6
    )
def f101 (x1 : Int) (x2 : Int) (x3 : List (BitVec 16)) : Option (Bool × List (BitVec 16)) :=
  chk (-9223372036854775808 ≤ (x1 + (1 : Int)) ∧ (x1 + (1 : Int)) ≤ 9223372036854775807) <|
  jn (fun (l19 : List (BitVec 16)) =>
  some (false, l19)
  ) fun (K1 : (List (BitVec 16)) → Option (Bool × List (BitVec 16))) =>
  f101_L0 x1 x2 K1 FUEL ((x1 + (1 : Int)), 0, x3)
end Go.Abs
