/- Part 27 of the proof: X49x. -/
import Derived.Test.YteiljhpgpdmmeaaGreatDoorSesrunZ26
namespace Go.Abs
open Go Go.Proofs
set_option maxRecDepth 100000
set_option maxHeartbeats 4000000
def cs13 : List UInt8 := [0, 1, 2, 2, 3, 3, 3, 3, 4, 4, 4, 4, 4, 4, 4, 4, 5, 5, 5, 5, 5, 5, 5, 5, 5, 5, 5, 5, 5, 5, 5, 5, 6, 6, 6, 6, 6, 6, 6, 6, 6, 6, 6, 6, 6, 6, 6, 6, 6, 6, 6, 6, 6, 6, 6, 6, 6, 6, 6, 6, 6, 6, 6, 6, 7, 7, 7, 7, 7, 7, 7, 7, 7, 7, 7, 7, 7, 7, 7, 7, 7, 7, 7, 7, 7, 7, 7, 7, 7, 7, 7, 7, 7, 7, 7, 7, 7, 7, 7, 7, 7, 7, 7, 7, 7, 7, 7, 7, 7, 7, 7, 7, 7, 7, 7, 7, 7, 7, 7, 7, 7, 7, 7, 7, 7, 7, 7, 7, 8, 8, 8, 8, 8, 8, 8, 8, 8, 8, 8, 8, 8, 8, 8, 8, 8, 8, 8, 8, 8, 8, 8, 8, 8, 8, 8, 8, 8, 8, 8, 8, 8, 8, 8, 8, 8, 8, 8, 8, 8, 8, 8, 8, 8, 8, 8, 8, 8, 8, 8, 8, 8, 8, 8, 8, 8, 8, 8, 8, 8, 8, 8, 8, 8, 8, 8, 8, 8, 8, 8, 8, 8, 8, 8, 8, 8, 8, 8, 8, 8, 8, 8, 8, 8, 8, 8, 8, 8, 8, 8, 8, 8, 8, 8, 8, 8, 8, 8, 8, 8, 8, 8, 8, 8, 8, 8, 8, 8, 8, 8, 8, 8, 8, 8, 8, 8, 8, 8, 8, 8, 8, 8, 8, 8, 8, 8, 8]
abbrev q3aSSI (l : List Tq0) : V := vL 3 eSSI (default : Tq0) l
abbrev q3aIIS (l : List Tq1) : V := vL 3 eIIS (default : Tq1) l
abbrev q3bIIS_24 (l : List Tq1) : Blk := bL 24 3 eIIS (default : Tq1) l
abbrev q3bIIS_96 (l : List Tq1) : Blk := bL 96 3 eIIS (default : Tq1) l
abbrev q3dIIS : Int × Int × List UInt8 := default
abbrev q3aS (l : List (List UInt8)) : V := vL 1 eS [] l
abbrev q3bS_9 (l : List (List UInt8)) : Blk := bL 9 1 eS [] l
theorem q3rq {Q : Exit → S → Prop} {id : Nat} {draw : Bool} {y : Code} (W : List Nat) (calls : List (Nat × CC)) (ds rs : List Nat) {l : List Oper} {s : S} (s' : S) {φ : Prop} (hφ : φ) (hQ : AWp Tryz.prog y Q s') (h : Abs.regC Tryz.prog W draw calls ds rs l s = some (s', φ) := by kernel_rfl) : AWp Tryz.prog (.seq (.region id l.toArray draw) y) Q s := AWp.sq W calls ds rs s' φ Tryz_mixed h hφ hQ
theorem q3rr {Q : Exit → S → Prop} {id : Nat} {draw : Bool} (W : List Nat) (calls : List (Nat × CC)) (ds rs : List Nat) {l : List Oper} {s : S} (s' : S) {φ : Prop} (hφ : φ) (hQ : Q .normal s') (h : Abs.regC Tryz.prog W draw calls ds rs l s = some (s', φ) := by kernel_rfl) : AWp Tryz.prog (.region id l.toArray draw) Q s := AWp.regC W calls ds rs s' φ Tryz_mixed h hφ hQ
def f167 (x1 : Int) : Option Int :=
 chk (0 ≤ x1 ∧ x1 < ((cs13.length : Nat) : Int)) <|
 chk ((((cs13.getD ((x1).toNat) 0).toNat : Nat) : Int) ≤ 9223372036854775807) <|
 some (((cs13.getD ((x1).toNat) 0).toNat : Nat) : Int)
theorem f167_ok  (x1 : Int) (r : Int) (h : f167 x1 = some r)  : Spec1 Tryz.prog 167 [] [] [] [.int .u8 x1] (.int .i64 r) [] := by
 unfold f167 at h
 refine Spec1.body 0 _ _ Tryz.func167 rfl Tryz.ntmps167 rfl rfl ?_
 refine q3rq [] [] [0] [] ⟨6, [(0, .int .u8 x1)], [], [], 0⟩ trivial ?_
 refine AWp.seq ?_
 obtain ⟨ob0, h⟩ := chk_some h
 obtain ⟨ob1p, h⟩ := chk_some h
 have ob1 : -9223372036854775808 ≤ (((cs13.getD ((x1).toNat) 0).toNat : Nat) : Int) ∧ (((cs13.getD ((x1).toNat) 0).toNat : Nat) : Int) ≤ 9223372036854775807 := ⟨by omega, ob1p⟩
 refine q3rr [] [] [2] [] ⟨6, [(2, .int .i64 (((cs13.getD ((x1).toNat) 0).toNat : Nat) : Int))], [], [], 0⟩ (an2 ob0 ob1) ?_
 refine tN ?_
 have hret := Option.some.inj h
 subst hret
 refine AWp.le (Le.mk (s' := ⟨6, [(2, .int .i64 (((cs13.getD ((x1).toNat) 0).toNat : Nat) : Int))], [], [], 0⟩) rfl rfl ⟨.refl _, trivial⟩ trivial) ?_
 refine AWp.ret ?_
 exact bR _ rfl ⟨rfl, rfl⟩ rfl
def f146_L0 (x1 : List UInt8) (K1 : Unit → Option (Int × Int × Int)) : Nat → (Int × Nat) → Option (Int × Int × Int)
 | 0, _ => none
 | k + 1, (i2, n3) =>
  if (decide ((n3 : Int) < (min ((x1.length : Nat) : Int) (10 : Int)))) then (
  chk ((n3 : Int) < ((x1.length : Nat) : Int)) <|
  if (decide ((((x1.getD n3 0).toNat : Nat) : Int) ≥ (128 : Int))) then (
  chk (0 ≤ (bitsI .and .u8 (((x1.getD n3 0).toNat : Nat) : Int) (127 : Int)) ∧ (bitsI .and .u8 (((x1.getD n3 0).toNat : Nat) : Int) (127 : Int)) ≤ 18446744073709551615) <|
  chk (-9223372036854775808 ≤ ((7 : Int) * (n3 : Int)) ∧ ((7 : Int) * (n3 : Int)) ≤ 9223372036854775807) <|
  chk (((n3 : Int) + (1 : Int)) ≤ 9223372036854775807) <|
  (f146_L0 x1 K1 k) ((bitsI .or .u64 i2 (IntKind.wrap .u64 ((bitsI .and .u8 (((x1.getD n3 0).toNat : Nat) : Int) (127 : Int)) * 2 ^ (min (7 * n3) (IntKind.bits .u64))))), (n3 + 1))
  ) else (
  (f167 (((x1.getD n3 0).toNat : Nat) : Int)).bind fun (r4 : Int) =>
  chk (-9223372036854775808 ≤ ((7 : Int) * (n3 : Int)) ∧ ((7 : Int) * (n3 : Int)) ≤ 9223372036854775807) <|
  chk (-9223372036854775808 ≤ (r4 + (((7 * n3) : Nat) : Int)) ∧ (r4 + (((7 * n3) : Nat) : Int)) ≤ 9223372036854775807) <|
  if (decide ((r4 + (((7 * n3) : Nat) : Int)) > (64 : Int))) then (
  some ((0 : Int), (0 : Int), (7 : Int))
  ) else (
  if (((((x1.getD n3 0).toNat : Nat) : Int) == (0 : Int)) && (decide ((n3 : Int) > (0 : Int)))) then (
  some ((0 : Int), (0 : Int), (2 : Int))
  ) else (
  chk ((((x1.getD n3 0).toNat : Nat) : Int) ≤ 18446744073709551615) <|
  chk (-9223372036854775808 ≤ ((7 : Int) * (n3 : Int)) ∧ ((7 : Int) * (n3 : Int)) ≤ 9223372036854775807) <|
  chk ((7 * n3) ≤ IntKind.bits .u64 ∧ 0 ≤ ((((x1.getD n3 0).toNat : Nat) : Int) * 2 ^ (7 * n3)) ∧ ((((x1.getD n3 0).toNat : Nat) : Int) * 2 ^ (7 * n3)) ≤ 18446744073709551615) <|
  chk (((n3 : Int) + (1 : Int)) ≤ 9223372036854775807) <|
  some ((bitsI .or .u64 i2 ((((x1.getD n3 0).toNat : Nat) : Int) * 2 ^ (7 * n3))), (((n3 + 1) : Nat) : Int), (0 : Int))
  )
  )
  )
  ) else (
  K1 ()
  )
theorem f146_L0_e2 (x1 : List UInt8) (K1 : Unit → Option (Int × Int × Int)) (k : Nat) (i2 : Int) (n3 : Nat) : f146_L0 x1 K1 (k + 1) (i2, n3) =
  if (decide ((n3 : Int) < (min ((x1.length : Nat) : Int) (10 : Int)))) then (
  chk ((n3 : Int) < ((x1.length : Nat) : Int)) <|
  if (decide ((((x1.getD n3 0).toNat : Nat) : Int) ≥ (128 : Int))) then (
  chk (0 ≤ (bitsI .and .u8 (((x1.getD n3 0).toNat : Nat) : Int) (127 : Int)) ∧ (bitsI .and .u8 (((x1.getD n3 0).toNat : Nat) : Int) (127 : Int)) ≤ 18446744073709551615) <|
  chk (-9223372036854775808 ≤ ((7 : Int) * (n3 : Int)) ∧ ((7 : Int) * (n3 : Int)) ≤ 9223372036854775807) <|
  chk (((n3 : Int) + (1 : Int)) ≤ 9223372036854775807) <|
  (f146_L0 x1 K1 k) ((bitsI .or .u64 i2 (IntKind.wrap .u64 ((bitsI .and .u8 (((x1.getD n3 0).toNat : Nat) : Int) (127 : Int)) * 2 ^ (min (7 * n3) (IntKind.bits .u64))))), (n3 + 1))
  ) else (
  (f167 (((x1.getD n3 0).toNat : Nat) : Int)).bind fun (r4 : Int) =>
  chk (-9223372036854775808 ≤ ((7 : Int) * (n3 : Int)) ∧ ((7 : Int) * (n3 : Int)) ≤ 9223372036854775807) <|
  chk (-9223372036854775808 ≤ (r4 + (((7 * n3) : Nat) : Int)) ∧ (r4 + (((7 * n3) : Nat) : Int)) ≤ 9223372036854775807) <|
  if (decide ((r4 + (((7 * n3) : Nat) : Int)) > (64 : Int))) then (
  some ((0 : Int), (0 : Int), (7 : Int))
  ) else (
  if (((((x1.getD n3 0).toNat : Nat) : Int) == (0 : Int)) && (decide ((n3 : Int) > (0 : Int)))) then (
  some ((0 : Int), (0 : Int), (2 : Int))
  ) else (
  chk ((((x1.getD n3 0).toNat : Nat) : Int) ≤ 18446744073709551615) <|
  chk (-9223372036854775808 ≤ ((7 : Int) * (n3 : Int)) ∧ ((7 : Int) * (n3 : Int)) ≤ 9223372036854775807) <|
  chk ((7 * n3) ≤ IntKind.bits .u64 ∧ 0 ≤ ((((x1.getD n3 0).toNat : Nat) : Int) * 2 ^ (7 * n3)) ∧ ((((x1.getD n3 0).toNat : Nat) : Int) * 2 ^ (7 * n3)) ≤ 18446744073709551615) <|
  chk (((n3 : Int) + (1 : Int)) ≤ 9223372036854775807) <|
  some ((bitsI .or .u64 i2 ((((x1.getD n3 0).toNat : Nat) : Int) * 2 ^ (7 * n3))), (((n3 + 1) : Nat) : Int), (0 : Int))
  )
  )
  )
  ) else (
  K1 ()
  ) := rfl
def f146 (x1 : List UInt8) : Option (Int × Int × Int) :=
 jn (fun (_ : Unit) =>
 if (decide (((x1.length : Nat) : Int) < (10 : Int))) then (
 some ((0 : Int), (0 : Int), (9 : Int))
 ) else (
 some ((0 : Int), (0 : Int), (7 : Int))
 )
 ) fun (K1 : Unit → Option (Int × Int × Int)) =>
 f146_L0 x1 K1 FUEL ((0 : Int), 0)
theorem f146_ok  (x1 : List UInt8) (r : Int × Int × Int) (h : f146 x1 = some r)  : Spec1 Tryz.prog 146 [] [] [] [.str x1] (.tup [.int .u64 r.1, .int .i64 r.2.1, .int .i64 r.2.2]) [] := by
 unfold f146 at h
 refine Spec1.body 0 _ _ Tryz.func146 rfl Tryz.ntmps146 rfl rfl ?_
 refine q3rq [25] [] [0] [] ⟨52, [(0, .str x1)], [], [], 0⟩ trivial ?_
 refine q3rq [25] [] [0, 5] [] ⟨52, [(0, .str x1), (5, .int .u64 (0 : Int))], [], [], 0⟩ trivial ?_
 obtain ⟨K1, hK1, h⟩ := jn_some h
 refine AWp.join (α := Unit) (fun (x : Unit) => match x with | () => ⟨52, [(0, .str x1)], [], [], 0⟩) (fun x => K1 x = some r) ?_ ?_
 ·
  refine q3rq [25] [] [0, 5, 10, 11] [] ⟨52, [(0, .str x1), (5, .int .u64 (0 : Int)), (10, .int .i64 (min ((x1.length : Nat) : Int) (10 : Int))), (11, .int .i64 (0 : Int))], [], [], 0⟩ trivial ?_
  refine AWp.block ?_
  refine AWp.loopL (α := Nat × (Int × Nat)) (fun x => match x with | (_, i2, n3) => ⟨52, [(0, .str x1), (5, .int .u64 i2), (10, .int .i64 (min ((x1.length : Nat) : Int) (10 : Int))), (11, .int .i64 (n3 : Int))], [], [], 0⟩) (fun x => f146_L0 x1 K1 x.1 x.2 = some r) (fun x => x.1) (FUEL, (0 : Int), 0) (Le.mk (s' := ⟨52, [(0, .str x1), (5, .int .u64 (0 : Int)), (10, .int .i64 (min ((x1.length : Nat) : Int) (10 : Int))), (11, .int .i64 (0 : Int))], [], [], 0⟩) rfl rfl ⟨.refl _, .refl _, .refl _, .refl _, trivial⟩ trivial) h ?_
  rintro ⟨k0, i2, n3⟩ h
  cases k0 with
  | zero => exact nomatch (show (none : Option (Int × Int × Int)) = some r from h)
  | succ k0 =>
  obtain ⟨C0, hC0⟩ : ∃ C, C = f146_L0 x1 K1 k0 := ⟨_, rfl⟩
  replace h := (f146_L0_e2 ..).symm.trans h
  try rw [← hC0] at h
  refine q3rq [25] [] [0, 5, 10, 11, 12] [] ⟨52, [(0, .str x1), (5, .int .u64 i2), (10, .int .i64 (min ((x1.length : Nat) : Int) (10 : Int))), (11, .int .i64 (n3 : Int)), (12, .bool (decide ((n3 : Int) < (min ((x1.length : Nat) : Int) (10 : Int)))))], [], [], 0⟩ trivial ?_
  refine AWp.seq ?_
  refine AWp.cond (b := (decide ((n3 : Int) < (min ((x1.length : Nat) : Int) (10 : Int))))) (by kernel_rfl) (fun hc1 => ?_) (fun hc1 => ?_)
  ·
   replace h := ite_tb hc1 h
   refine AWp.skip ?_
   refine tN ?_
   refine AWp.seq ?_
   refine AWp.block ?_
   refine q3rq [25] [] [0, 5, 6, 10, 11] [] ⟨52, [(0, .str x1), (5, .int .u64 i2), (6, .int .i64 (n3 : Int)), (10, .int .i64 (min ((x1.length : Nat) : Int) (10 : Int))), (11, .int .i64 (n3 : Int))], [], [], 0⟩ trivial ?_
   refine AWp.seq ?_
   obtain ⟨ob0p, h⟩ := chk_some h
   have ob0 : 0 ≤ (n3 : Int) ∧ (n3 : Int) < ((x1.length : Nat) : Int) := ⟨by omega, ob0p⟩
   refine q3rr [25] [] [0, 5, 6, 7, 10, 11] [] ⟨52, [(0, .str x1), (5, .int .u64 i2), (6, .int .i64 (n3 : Int)), (7, .int .u8 (((x1.getD n3 0).toNat : Nat) : Int)), (10, .int .i64 (min ((x1.length : Nat) : Int) (10 : Int))), (11, .int .i64 (n3 : Int))], [], [], 0⟩ (an1 ob0) ?_
   refine tN ?_
   refine AWp.seq ?_
   refine q3rq [25] [] [0, 5, 6, 7, 10, 11, 18] [] ⟨52, [(0, .str x1), (5, .int .u64 i2), (6, .int .i64 (n3 : Int)), (7, .int .u8 (((x1.getD n3 0).toNat : Nat) : Int)), (10, .int .i64 (min ((x1.length : Nat) : Int) (10 : Int))), (11, .int .i64 (n3 : Int)), (18, .bool (decide ((((x1.getD n3 0).toNat : Nat) : Int) ≥ (128 : Int))))], [], [], 0⟩ trivial ?_
   refine AWp.cond (b := (decide ((((x1.getD n3 0).toNat : Nat) : Int) ≥ (128 : Int)))) (by kernel_rfl) (fun hc2 => ?_) (fun hc2 => ?_)
   ·
    replace h := ite_tb hc2 h
    refine AWp.seq ?_
    obtain ⟨ob1, h⟩ := chk_some h
    obtain ⟨ob2, h⟩ := chk_some h
    have ob3 : 0 ≤ (((7 * n3) : Nat) : Int) := by omega
    refine q3rr [25] [] [0, 5, 10, 11] [] ⟨52, [(0, .str x1), (5, .int .u64 (bitsI .or .u64 i2 (IntKind.wrap .u64 ((bitsI .and .u8 (((x1.getD n3 0).toNat : Nat) : Int) (127 : Int)) * 2 ^ (min (7 * n3) (IntKind.bits .u64)))))), (10, .int .i64 (min ((x1.length : Nat) : Int) (10 : Int))), (11, .int .i64 (n3 : Int))], [], [], 0⟩ (an3 ob1 ob2 ob3) ?_
    refine tN ?_
    refine AWp.exit ?_
    refine tE ?_
    refine kS ?_
    refine tN ?_
    obtain ⟨ob4p, h⟩ := chk_some h
    have ob4 : -9223372036854775808 ≤ ((n3 : Int) + (1 : Int)) ∧ ((n3 : Int) + (1 : Int)) ≤ 9223372036854775807 := ⟨by omega, ob4p⟩
    refine q3rr [25] [] [0, 5, 10, 11] [] ⟨52, [(0, .str x1), (5, .int .u64 (bitsI .or .u64 i2 (IntKind.wrap .u64 ((bitsI .and .u8 (((x1.getD n3 0).toNat : Nat) : Int) (127 : Int)) * 2 ^ (min (7 * n3) (IntKind.bits .u64)))))), (10, .int .i64 (min ((x1.length : Nat) : Int) (10 : Int))), (11, .int .i64 (((n3 + 1) : Nat) : Int))], [], [], 0⟩ (an1 ob4) ?_
    rw [hC0] at h
    exact lN (_, (bitsI .or .u64 i2 (IntKind.wrap .u64 ((bitsI .and .u8 (((x1.getD n3 0).toNat : Nat) : Int) (127 : Int)) * 2 ^ (min (7 * n3) (IntKind.bits .u64))))), (n3 + 1)) (Le.mk rfl rfl ⟨.refl _, .refl _, .refl _, .refl _, trivial⟩ trivial) h (Nat.lt_succ_self _)
   ·
    replace h := ite_fb hc2 h
    refine AWp.skip ?_
    refine tN ?_
    refine AWp.seq ?_
    refine AWp.seq ?_
    obtain ⟨r4, hr4, h⟩ := bind_ok h
    obtain ⟨ob5, h⟩ := chk_some h
    obtain ⟨ob6, h⟩ := chk_some h
    refine q3rr [25] [(1, ⟨[.int .u8 (((x1.getD n3 0).toNat : Nat) : Int)], [], [], [], .int .i64 r4, [], [], []⟩)] [5, 6, 7, 32] [] ⟨52, [(5, .int .u64 i2), (6, .int .i64 (n3 : Int)), (7, .int .u8 (((x1.getD n3 0).toNat : Nat) : Int)), (32, .bool (decide ((r4 + (((7 * n3) : Nat) : Int)) > (64 : Int))))], [], [], 0⟩ (an3 (cpT (f167_ok _ _ hr4)) ob5 ob6) ?_
    refine tN ?_
    refine AWp.cond (b := (decide ((r4 + (((7 * n3) : Nat) : Int)) > (64 : Int)))) (by kernel_rfl) (fun hc3 => ?_) (fun hc3 => ?_)
    ·
     replace h := ite_tb hc3 h
     refine q3rq [25] [] [2, 3, 4] [] ⟨52, [(2, .int .u64 (0 : Int)), (3, .int .i64 (0 : Int)), (4, .int .i64 (7 : Int))], [], [], 0⟩ trivial ?_
     have hret := Option.some.inj h
     subst hret
     refine AWp.le (Le.mk (s' := ⟨52, [(2, .int .u64 (0 : Int)), (3, .int .i64 (0 : Int)), (4, .int .i64 (7 : Int))], [], [], 0⟩) rfl rfl ⟨.refl _, .refl _, .refl _, trivial⟩ trivial) ?_
     refine AWp.ret ?_
     refine tR ?_
     refine kR ?_
     refine tR ?_
     refine tR ?_
     refine kR ?_
     refine joinQ_ret ?_
     exact bR _ rfl ⟨rfl, rfl⟩ rfl
    ·
     replace h := ite_fb hc3 h
     refine AWp.skip ?_
     refine tN ?_
     refine AWp.seq ?_
     refine AWp.seq ?_
     have ob7 := idA ((((((x1.getD n3 0).toNat : Nat) : Int) == (0 : Int)) == true) = true)
     have ob8 := bqA ((((x1.getD n3 0).toNat : Nat) : Int) == (0 : Int)) true
     refine q3rr [25] [] [5, 6, 7, 38] [] ⟨52, [(5, .int .u64 i2), (6, .int .i64 (n3 : Int)), (7, .int .u8 (((x1.getD n3 0).toNat : Nat) : Int)), (38, .bool (((((x1.getD n3 0).toNat : Nat) : Int) == (0 : Int)) && (decide ((n3 : Int) > (0 : Int)))))], [], [], 0⟩ (an2 (an1 ob7) ob8) ?_
     refine tN ?_
     refine AWp.cond (b := (((((x1.getD n3 0).toNat : Nat) : Int) == (0 : Int)) && (decide ((n3 : Int) > (0 : Int))))) (by kernel_rfl) (fun hc4 => ?_) (fun hc4 => ?_)
     ·
      replace h := ite_tb hc4 h
      refine q3rq [25] [] [2, 3, 4] [] ⟨52, [(2, .int .u64 (0 : Int)), (3, .int .i64 (0 : Int)), (4, .int .i64 (2 : Int))], [], [], 0⟩ trivial ?_
      have hret := Option.some.inj h
      subst hret
      refine AWp.le (Le.mk (s' := ⟨52, [(2, .int .u64 (0 : Int)), (3, .int .i64 (0 : Int)), (4, .int .i64 (2 : Int))], [], [], 0⟩) rfl rfl ⟨.refl _, .refl _, .refl _, trivial⟩ trivial) ?_
      refine AWp.ret ?_
      refine tR ?_
      refine kR ?_
      refine tR ?_
      refine tR ?_
      refine kR ?_
      refine joinQ_ret ?_
      exact bR _ rfl ⟨rfl, rfl⟩ rfl
     ·
      replace h := ite_fb hc4 h
      refine AWp.skip ?_
      refine tN ?_
      refine AWp.seq ?_
      obtain ⟨ob9p, h⟩ := chk_some h
      have ob9 : 0 ≤ (((x1.getD n3 0).toNat : Nat) : Int) ∧ (((x1.getD n3 0).toNat : Nat) : Int) ≤ 18446744073709551615 := ⟨by omega, ob9p⟩
      obtain ⟨ob10, h⟩ := chk_some h
      obtain ⟨ob11p, h⟩ := chk_some h
      have ob11 : 0 ≤ (((7 * n3) : Nat) : Int) ∧ (7 * n3) ≤ IntKind.bits .u64 ∧ 0 ≤ ((((x1.getD n3 0).toNat : Nat) : Int) * 2 ^ (7 * n3)) ∧ ((((x1.getD n3 0).toNat : Nat) : Int) * 2 ^ (7 * n3)) ≤ 18446744073709551615 := ⟨by omega, ob11p.1, ob11p.2.1, ob11p.2.2⟩
      obtain ⟨ob12p, h⟩ := chk_some h
      have ob12 : -9223372036854775808 ≤ ((n3 : Int) + (1 : Int)) ∧ ((n3 : Int) + (1 : Int)) ≤ 9223372036854775807 := ⟨by omega, ob12p⟩
      refine q3rr [25] [] [2, 3, 4] [] ⟨52, [(2, .int .u64 (bitsI .or .u64 i2 ((((x1.getD n3 0).toNat : Nat) : Int) * 2 ^ (7 * n3)))), (3, .int .i64 (((n3 + 1) : Nat) : Int)), (4, .int .i64 (0 : Int))], [], [], 0⟩ (an4 ob9 ob10 ob11 ob12) ?_
      refine tN ?_
      have hret := Option.some.inj h
      subst hret
      refine AWp.le (Le.mk (s' := ⟨52, [(2, .int .u64 (bitsI .or .u64 i2 ((((x1.getD n3 0).toNat : Nat) : Int) * 2 ^ (7 * n3)))), (3, .int .i64 (((n3 + 1) : Nat) : Int)), (4, .int .i64 (0 : Int))], [], [], 0⟩) rfl rfl ⟨.refl _, .refl _, .refl _, trivial⟩ trivial) ?_
      refine AWp.ret ?_
      refine kR ?_
      refine tR ?_
      refine tR ?_
      refine kR ?_
      refine joinQ_ret ?_
      exact bR _ rfl ⟨rfl, rfl⟩ rfl
  ·
   replace h := ite_fb hc1 h
   refine AWp.exit ?_
   refine tE ?_
   refine tE ?_
   refine kS ?_
   exact jN () (Le.mk rfl rfl ⟨.refl _, trivial⟩ trivial) h
 ·
  rintro ⟨⟩ h
  replace h := (congrFun hK1 _).symm.trans h
  refine AWp.seq ?_
  refine q3rq [25] [] [51] [] ⟨52, [(51, .bool (decide (((x1.length : Nat) : Int) < (10 : Int))))], [], [], 0⟩ trivial ?_
  refine AWp.cond (b := (decide (((x1.length : Nat) : Int) < (10 : Int)))) (by kernel_rfl) (fun hc5 => ?_) (fun hc5 => ?_)
  ·
   replace h := ite_tb hc5 h
   refine q3rq [25] [] [2, 3, 4] [] ⟨52, [(2, .int .u64 (0 : Int)), (3, .int .i64 (0 : Int)), (4, .int .i64 (9 : Int))], [], [], 0⟩ trivial ?_
   have hret := Option.some.inj h
   subst hret
   refine AWp.le (Le.mk (s' := ⟨52, [(2, .int .u64 (0 : Int)), (3, .int .i64 (0 : Int)), (4, .int .i64 (9 : Int))], [], [], 0⟩) rfl rfl ⟨.refl _, .refl _, .refl _, trivial⟩ trivial) ?_
   refine AWp.ret ?_
   refine tR ?_
   exact bR _ rfl ⟨rfl, rfl⟩ rfl
  ·
   replace h := ite_fb hc5 h
   refine AWp.skip ?_
   refine tN ?_
   refine q3rq [25] [] [2, 3, 4] [] ⟨52, [(2, .int .u64 (0 : Int)), (3, .int .i64 (0 : Int)), (4, .int .i64 (7 : Int))], [], [], 0⟩ trivial ?_
   have hret := Option.some.inj h
   subst hret
   refine AWp.le (Le.mk (s' := ⟨52, [(2, .int .u64 (0 : Int)), (3, .int .i64 (0 : Int)), (4, .int .i64 (7 : Int))], [], [], 0⟩) rfl rfl ⟨.refl _, .refl _, .refl _, trivial⟩ trivial) ?_
   refine AWp.ret ?_
   exact bR _ rfl ⟨rfl, rfl⟩ rfl
def f120 (x1 : List UInt8) : Option (List UInt8 × Int × Int) :=
 (f146 x1).bind fun (r2 : Int × Int × Int) =>
 if (r2.2.2 != (0 : Int)) then (
 some ([], (0 : Int), r2.2.2)
 ) else (
 chk (-9223372036854775808 ≤ (((x1.length : Nat) : Int) - r2.2.1) ∧ (((x1.length : Nat) : Int) - r2.2.1) ≤ 9223372036854775807) <|
 chk (0 ≤ (((x1.length : Nat) : Int) - r2.2.1) ∧ (((x1.length : Nat) : Int) - r2.2.1) ≤ 18446744073709551615) <|
 if (decide (r2.1 > (((x1.length : Nat) : Int) - r2.2.1))) then (
 some ([], (0 : Int), (9 : Int))
 ) else (
 chk (-9223372036854775808 ≤ r2.1 ∧ r2.1 ≤ 9223372036854775807) <|
 chk (-9223372036854775808 ≤ (r2.2.1 + r2.1) ∧ (r2.2.1 + r2.1) ≤ 9223372036854775807) <|
 chk (0 ≤ r2.2.1 ∧ r2.2.1 ≤ (r2.2.1 + r2.1) ∧ (r2.2.1 + r2.1) ≤ ((x1.length : Nat) : Int)) <|
 some (((x1.take (((r2.2.1 + r2.1)).toNat)).drop ((r2.2.1).toNat)), (r2.2.1 + r2.1), (0 : Int))
 )
 )
theorem f120_ok  (x1 : List UInt8) (r : List UInt8 × Int × Int) (h : f120 x1 = some r)  : Spec1 Tryz.prog 120 [] [] [] [.str x1] (.tup [.str r.1, .int .i64 r.2.1, .int .i64 r.2.2]) [] := by
 unfold f120 at h
 refine Spec1.body 0 _ _ Tryz.func120 rfl Tryz.ntmps120 rfl rfl ?_
 refine q3rq [] [] [0] [] ⟨34, [(0, .str x1)], [], [], 0⟩ trivial ?_
 refine AWp.seq ?_
 obtain ⟨r2, hr2, h⟩ := bind_ok h
 refine q3rr [] [(1, ⟨[.str x1], [], [], [], .tup [.int .u64 r2.1, .int .i64 r2.2.1, .int .i64 r2.2.2], [], [], []⟩)] [0, 5, 6, 7] [] ⟨34, [(0, .str x1), (5, .int .u64 r2.1), (6, .int .i64 r2.2.1), (7, .int .i64 r2.2.2)], [], [], 0⟩ (an1 (cpT (f146_ok _ _ hr2))) ?_
 refine tN ?_
 refine AWp.seq ?_
 refine q3rq [] [] [0, 5, 6, 7, 16] [] ⟨34, [(0, .str x1), (5, .int .u64 r2.1), (6, .int .i64 r2.2.1), (7, .int .i64 r2.2.2), (16, .bool (r2.2.2 != (0 : Int)))], [], [], 0⟩ trivial ?_
 refine AWp.cond (b := (r2.2.2 != (0 : Int))) (by kernel_rfl) (fun hc1 => ?_) (fun hc1 => ?_)
 ·
  replace h := ite_tb hc1 h
  refine q3rq [] [] [2, 3, 4] [] ⟨34, [(2, .str []), (3, .int .i64 (0 : Int)), (4, .int .i64 r2.2.2)], [], [], 0⟩ trivial ?_
  have hret := Option.some.inj h
  subst hret
  refine AWp.le (Le.mk (s' := ⟨34, [(2, .str []), (3, .int .i64 (0 : Int)), (4, .int .i64 r2.2.2)], [], [], 0⟩) rfl rfl ⟨.refl _, .refl _, .refl _, trivial⟩ trivial) ?_
  refine AWp.ret ?_
  refine tR ?_
  exact bR _ rfl ⟨rfl, rfl⟩ rfl
 ·
  replace h := ite_fb hc1 h
  refine AWp.skip ?_
  refine tN ?_
  refine AWp.seq ?_
  refine AWp.seq ?_
  obtain ⟨ob0, h⟩ := chk_some h
  obtain ⟨ob1, h⟩ := chk_some h
  refine q3rr [] [] [0, 5, 6, 24] [] ⟨34, [(0, .str x1), (5, .int .u64 r2.1), (6, .int .i64 r2.2.1), (24, .bool (decide (r2.1 > (((x1.length : Nat) : Int) - r2.2.1))))], [], [], 0⟩ (an2 ob0 ob1) ?_
  refine tN ?_
  refine AWp.cond (b := (decide (r2.1 > (((x1.length : Nat) : Int) - r2.2.1)))) (by kernel_rfl) (fun hc2 => ?_) (fun hc2 => ?_)
  ·
   replace h := ite_tb hc2 h
   refine q3rq [] [] [2, 3, 4] [] ⟨34, [(2, .str []), (3, .int .i64 (0 : Int)), (4, .int .i64 (9 : Int))], [], [], 0⟩ trivial ?_
   have hret := Option.some.inj h
   subst hret
   refine AWp.le (Le.mk (s' := ⟨34, [(2, .str []), (3, .int .i64 (0 : Int)), (4, .int .i64 (9 : Int))], [], [], 0⟩) rfl rfl ⟨.refl _, .refl _, .refl _, trivial⟩ trivial) ?_
   refine AWp.ret ?_
   refine tR ?_
   exact bR _ rfl ⟨rfl, rfl⟩ rfl
  ·
   replace h := ite_fb hc2 h
   refine AWp.skip ?_
   refine tN ?_
   refine AWp.seq ?_
   obtain ⟨ob2, h⟩ := chk_some h
   obtain ⟨ob3, h⟩ := chk_some h
   refine q3rr [] [] [0, 6, 8] [] ⟨34, [(0, .str x1), (6, .int .i64 r2.2.1), (8, .int .i64 (r2.2.1 + r2.1))], [], [], 0⟩ (an2 ob2 ob3) ?_
   refine tN ?_
   refine AWp.seq ?_
   obtain ⟨ob4, h⟩ := chk_some h
   refine q3rr [] [] [2, 3, 4] [] ⟨34, [(2, .str ((x1.take (((r2.2.1 + r2.1)).toNat)).drop ((r2.2.1).toNat))), (3, .int .i64 (r2.2.1 + r2.1)), (4, .int .i64 (0 : Int))], [], [], 0⟩ (an1 ob4) ?_
   refine tN ?_
   have hret := Option.some.inj h
   subst hret
   refine AWp.le (Le.mk (s' := ⟨34, [(2, .str ((x1.take (((r2.2.1 + r2.1)).toNat)).drop ((r2.2.1).toNat))), (3, .int .i64 (r2.2.1 + r2.1)), (4, .int .i64 (0 : Int))], [], [], 0⟩) rfl rfl ⟨.refl _, .refl _, .refl _, trivial⟩ trivial) ?_
   refine AWp.ret ?_
   exact bR _ rfl ⟨rfl, rfl⟩ rfl
def f119_L0 (x1 : List UInt8) (r2 : Int × Int × Int) (K1 : (Int × List (List UInt8)) → Option (Int × Int × List (List UInt8))) : Nat → (Int × Nat × List (List UInt8)) → Option (Int × Int × List (List UInt8))
 | 0, _ => none
 | k + 1, (i3, n4, l5) =>
  if (decide ((n4 : Int) < r2.1)) then (
  (f120 (x1.drop ((i3).toNat))).bind fun (r6 : List UInt8 × Int × Int) =>
  chk (0 ≤ i3 ∧ i3 ≤ ((x1.length : Nat) : Int)) <|
  if (r6.2.2 != (0 : Int)) then (
  some ((0 : Int), r6.2.2, [])
  ) else (
  chk (((l5).length + 1) * 16 ≤ 140737488355328) <|
  chk (-9223372036854775808 ≤ (i3 + r6.2.1) ∧ (i3 + r6.2.1) ≤ 9223372036854775807) <|
  chk (((n4 : Int) + (1 : Int)) ≤ 18446744073709551615) <|
  (f119_L0 x1 r2 K1 k) ((i3 + r6.2.1), (n4 + 1), (l5 ++ [r6.1]))
  )
  ) else (
  K1 (i3, l5)
  )
def f119 (x1 : List UInt8) : Option (Int × Int × List (List UInt8)) :=
 (f146 x1).bind fun (r2 : Int × Int × Int) =>
 if (r2.2.2 != (0 : Int)) then (
 some ((0 : Int), r2.2.2, [])
 ) else (
 jn (fun ((i7, l8) : Int × List (List UInt8)) =>
 some (i7, (0 : Int), l8)
 ) fun (K1 : (Int × List (List UInt8)) → Option (Int × Int × List (List UInt8))) =>
 f119_L0 x1 r2 K1 FUEL (r2.2.1, 0, [])
 )
theorem f119_ok  (x1 : List UInt8) (r : Int × Int × List (List UInt8)) (h : f119 x1 = some r)  : Spec1 Tryz.prog 119 [] [] [] [.str x1, .fn (.func 120) []] (.tup [.own 3000, .int .i64 r.1, .int .i64 r.2.1]) [(3000, bL 9 1 eS [] r.2.2)] := by
 unfold f119 at h
 refine Spec1.body 0 _ _ Tryz.func119 rfl Tryz.ntmps119 rfl rfl ?_
 refine q3rq [] [] [0, 1] [] ⟨48, [(0, .str x1), (1, .fn (.func 120) [])], [], [], 0⟩ trivial ?_
 refine AWp.seq ?_
 obtain ⟨r2, hr2, h⟩ := bind_ok h
 refine q3rr [] [(1, ⟨[.str x1], [], [], [], .tup [.int .u64 r2.1, .int .i64 r2.2.1, .int .i64 r2.2.2], [], [], []⟩)] [0, 1, 7, 8, 9] [] ⟨48, [(0, .str x1), (1, .fn (.func 120) []), (7, .int .u64 r2.1), (8, .int .i64 r2.2.1), (9, .int .i64 r2.2.2)], [], [], 0⟩ (an1 (cpT (f146_ok _ _ hr2))) ?_
 refine tN ?_
 refine AWp.seq ?_
 refine q3rq [] [] [0, 1, 7, 8, 9, 21] [] ⟨48, [(0, .str x1), (1, .fn (.func 120) []), (7, .int .u64 r2.1), (8, .int .i64 r2.2.1), (9, .int .i64 r2.2.2), (21, .bool (r2.2.2 != (0 : Int)))], [], [], 0⟩ trivial ?_
 refine AWp.cond (b := (r2.2.2 != (0 : Int))) (by kernel_rfl) (fun hc1 => ?_) (fun hc1 => ?_)
 ·
  replace h := ite_tb hc1 h
  refine q3rq [] [] [4, 5, 6] [] ⟨48, [(4, .nils), (5, .int .i64 (0 : Int)), (6, .int .i64 r2.2.2)], [], [], 0⟩ trivial ?_
  refine AWp.le (Le.trans (Le.nilOwn 4 3000 9 1 (encF eS [] []) rfl rfl (Nat.le_of_ble_eq_true rfl)) (Le.mk (s' := ⟨48, [(4, .own 3000), (5, .int .i64 (0 : Int)), (6, .int .i64 r2.2.2)], [(3000, q3bS_9 [])], [], 0⟩) rfl rfl ⟨.refl _, .refl _, .refl _, trivial⟩ ⟨⟨_, rfl, .refl _⟩, trivial⟩)) ?_
  have hret := Option.some.inj h
  subst hret
  refine AWp.le (Le.mk (s' := ⟨48, [(4, .own 3000), (5, .int .i64 (0 : Int)), (6, .int .i64 r2.2.2)], [(3000, q3bS_9 [])], [], 0⟩) rfl rfl ⟨.refl _, .refl _, .refl _, trivial⟩ ⟨⟨_, rfl, .refl _⟩, trivial⟩) ?_
  refine AWp.ret ?_
  refine tR ?_
  exact bR _ rfl ⟨rfl, rfl⟩ rfl
 ·
  replace h := ite_fb hc1 h
  refine AWp.skip ?_
  refine tN ?_
  refine q3rq [] [] [0, 1, 7, 8, 10] [] ⟨48, [(0, .str x1), (1, .fn (.func 120) []), (7, .int .u64 r2.1), (8, .int .i64 r2.2.1), (10, .nils)], [], [], 0⟩ trivial ?_
  obtain ⟨K1, hK1, h⟩ := jn_some h
  refine AWp.join (α := Int × List (List UInt8)) (fun (x : Int × List (List UInt8)) => match x with | (i7, l8) => ⟨48, [(8, .int .i64 i7), (10, .own 5010)], [(5010, q3bS_9 l8)], [], 0⟩) (fun x => K1 x = some r) ?_ ?_
  ·
   refine q3rq [] [] [0, 1, 8, 10, 23, 24] [] ⟨48, [(0, .str x1), (1, .fn (.func 120) []), (8, .int .i64 r2.2.1), (10, .nils), (23, .int .u64 r2.1), (24, .int .u64 (0 : Int))], [], [], 0⟩ trivial ?_
   refine AWp.block ?_
   refine AWp.loopL (α := Nat × (Int × Nat × List (List UInt8))) (fun x => match x with | (_, i3, n4, l5) => ⟨48, [(0, .str x1), (1, .fn (.func 120) []), (8, .int .i64 i3), (10, .own 5010), (23, .int .u64 r2.1), (24, .int .u64 (n4 : Int))], [(5010, q3bS_9 l5)], [], 0⟩) (fun x => f119_L0 x1 r2 K1 x.1 x.2 = some r) (fun x => x.1) (FUEL, r2.2.1, 0, []) (Le.trans (Le.trans (Le.nilOwn 10 5010 9 1 (encF eS [] []) rfl rfl (Nat.le_of_ble_eq_true rfl)) (Le.mk (s' := ⟨48, [(0, .str x1), (1, .fn (.func 120) []), (8, .int .i64 r2.2.1), (10, .own 5010), (23, .int .u64 r2.1), (24, .int .u64 (0 : Int))], [(5010, q3bS_9 [])], [], 0⟩) rfl rfl ⟨.refl _, .refl _, .refl _, .refl _, .refl _, .refl _, trivial⟩ ⟨⟨_, rfl, .refl _⟩, trivial⟩)) (Le.mk (s' := ⟨48, [(0, .str x1), (1, .fn (.func 120) []), (8, .int .i64 r2.2.1), (10, .own 5010), (23, .int .u64 r2.1), (24, .int .u64 (0 : Int))], [(5010, q3bS_9 [])], [], 0⟩) rfl rfl ⟨.refl _, .refl _, .refl _, .refl _, .refl _, .refl _, trivial⟩ ⟨⟨_, rfl, .refl _⟩, trivial⟩)) h ?_
   rintro ⟨k0, i3, n4, l5⟩ h
   cases k0 with
   | zero => exact nomatch (show (none : Option (Int × Int × List (List UInt8))) = some r from h)
   | succ k0 =>
   obtain ⟨C0, hC0⟩ : ∃ C, C = f119_L0 x1 r2 K1 k0 := ⟨_, rfl⟩
   replace h := (f119_L0.eq_2 ..).symm.trans h
   try rw [← hC0] at h
   refine q3rq [] [] [0, 1, 8, 10, 23, 24, 25] [5010] ⟨48, [(0, .str x1), (1, .fn (.func 120) []), (8, .int .i64 i3), (10, .own 5010), (23, .int .u64 r2.1), (24, .int .u64 (n4 : Int)), (25, .bool (decide ((n4 : Int) < r2.1)))], [(5010, q3bS_9 l5)], [], 0⟩ trivial ?_
   refine AWp.seq ?_
   refine AWp.cond (b := (decide ((n4 : Int) < r2.1))) (by kernel_rfl) (fun hc2 => ?_) (fun hc2 => ?_)
   ·
    replace h := ite_tb hc2 h
    refine AWp.skip ?_
    refine tN ?_
    refine AWp.seq ?_
    refine AWp.block ?_
    refine AWp.seq ?_
    obtain ⟨r6, hr6, h⟩ := bind_ok h
    obtain ⟨ob0, h⟩ := chk_some h
    refine q3rr [] [(4, ⟨[.str (x1.drop ((i3).toNat))], [], [], [], .tup [.str r6.1, .int .i64 r6.2.1, .int .i64 r6.2.2], [], [], []⟩)] [0, 1, 8, 10, 11, 12, 13, 23, 24] [5010] ⟨48, [(0, .str x1), (1, .fn (.func 120) []), (8, .int .i64 i3), (10, .own 5010), (11, .str r6.1), (12, .int .i64 r6.2.1), (13, .int .i64 r6.2.2), (23, .int .u64 r2.1), (24, .int .u64 (n4 : Int))], [(5010, q3bS_9 l5)], [], 0⟩ (an2 ob0 (cpT (f120_ok _ _ hr6))) ?_
    refine tN ?_
    refine AWp.seq ?_
    refine q3rq [] [] [0, 1, 8, 10, 11, 12, 13, 23, 24, 36] [5010] ⟨48, [(0, .str x1), (1, .fn (.func 120) []), (8, .int .i64 i3), (10, .own 5010), (11, .str r6.1), (12, .int .i64 r6.2.1), (13, .int .i64 r6.2.2), (23, .int .u64 r2.1), (24, .int .u64 (n4 : Int)), (36, .bool (r6.2.2 != (0 : Int)))], [(5010, q3bS_9 l5)], [], 0⟩ trivial ?_
    refine AWp.cond (b := (r6.2.2 != (0 : Int))) (by kernel_rfl) (fun hc3 => ?_) (fun hc3 => ?_)
    ·
     replace h := ite_tb hc3 h
     refine q3rq [] [] [4, 5, 6] [] ⟨48, [(4, .nils), (5, .int .i64 (0 : Int)), (6, .int .i64 r6.2.2)], [], [], 0⟩ trivial ?_
     refine AWp.le (Le.trans (Le.nilOwn 4 3000 9 1 (encF eS [] []) rfl rfl (Nat.le_of_ble_eq_true rfl)) (Le.mk (s' := ⟨48, [(4, .own 3000), (5, .int .i64 (0 : Int)), (6, .int .i64 r6.2.2)], [(3000, q3bS_9 [])], [], 0⟩) rfl rfl ⟨.refl _, .refl _, .refl _, trivial⟩ ⟨⟨_, rfl, .refl _⟩, trivial⟩)) ?_
     have hret := Option.some.inj h
     subst hret
     refine AWp.le (Le.mk (s' := ⟨48, [(4, .own 3000), (5, .int .i64 (0 : Int)), (6, .int .i64 r6.2.2)], [(3000, q3bS_9 [])], [], 0⟩) rfl rfl ⟨.refl _, .refl _, .refl _, trivial⟩ ⟨⟨_, rfl, .refl _⟩, trivial⟩) ?_
     refine AWp.ret ?_
     refine tR ?_
     refine kR ?_
     refine tR ?_
     refine tR ?_
     refine kR ?_
     refine joinQ_ret ?_
     exact bR _ rfl ⟨rfl, rfl⟩ rfl
    ·
     replace h := ite_fb hc3 h
     refine AWp.skip ?_
     refine tN ?_
     refine AWp.seq ?_
     obtain ⟨ob1, h⟩ := chk_some h
     refine q3rr [] [] [0, 1, 8, 10, 12, 23, 24] [5010] ⟨48, [(0, .str x1), (1, .fn (.func 120) []), (8, .int .i64 i3), (10, .own 5010), (12, .int .i64 r6.2.1), (23, .int .u64 r2.1), (24, .int .u64 (n4 : Int))], [(5010, .rows 9 1 ((l5).length + 1) (appF (l5).length (encF eS [] l5) (lstF 1 [.str r6.1])))], [], 0⟩ (an1 ob1) ?_
     refine tN ?_
     refine AWp.le (Le.mk (s' := ⟨48, [(0, .str x1), (1, .fn (.func 120) []), (8, .int .i64 i3), (10, .own 5010), (12, .int .i64 r6.2.1), (23, .int .u64 r2.1), (24, .int .u64 (n4 : Int))], [(5010, q3bS_9 (l5 ++ [r6.1]))], [], 0⟩) rfl rfl ⟨.refl _, .refl _, .refl _, .refl _, .refl _, .refl _, .refl _, trivial⟩ ⟨⟨_, rfl, (BLe.of (RL.app (RL.self _) (RL.lst (enc := eS) [r6.1] rfl rfl (fun _ => rfl))))⟩, trivial⟩) ?_
     obtain ⟨ob2, h⟩ := chk_some h
     refine q3rr [] [] [0, 1, 8, 10, 23, 24] [5010] ⟨48, [(0, .str x1), (1, .fn (.func 120) []), (8, .int .i64 (i3 + r6.2.1)), (10, .own 5010), (23, .int .u64 r2.1), (24, .int .u64 (n4 : Int))], [(5010, q3bS_9 (l5 ++ [r6.1]))], [], 0⟩ (an1 ob2) ?_
     refine kN ?_
     refine tN ?_
     obtain ⟨ob3p, h⟩ := chk_some h
     have ob3 : 0 ≤ ((n4 : Int) + (1 : Int)) ∧ ((n4 : Int) + (1 : Int)) ≤ 18446744073709551615 := ⟨by omega, ob3p⟩
     refine q3rr [] [] [0, 1, 8, 10, 23, 24] [5010] ⟨48, [(0, .str x1), (1, .fn (.func 120) []), (8, .int .i64 (i3 + r6.2.1)), (10, .own 5010), (23, .int .u64 r2.1), (24, .int .u64 (((n4 + 1) : Nat) : Int))], [(5010, q3bS_9 (l5 ++ [r6.1]))], [], 0⟩ (an1 ob3) ?_
     rw [hC0] at h
     exact lN (_, (i3 + r6.2.1), (n4 + 1), (l5 ++ [r6.1])) (Le.mk rfl rfl ⟨.refl _, .refl _, .refl _, .refl _, .refl _, .refl _, trivial⟩ ⟨⟨_, rfl, .refl _⟩, trivial⟩) h (Nat.lt_succ_self _)
   ·
    replace h := ite_fb hc2 h
    refine AWp.exit ?_
    refine tE ?_
    refine tE ?_
    refine kS ?_
    exact jN (i3, l5) (Le.mk rfl rfl ⟨.refl _, .refl _, trivial⟩ ⟨⟨_, rfl, .refl _⟩, trivial⟩) h
  ·
   rintro ⟨i7, l8⟩ h
   replace h := (congrFun hK1 _).symm.trans h
   refine q3rq [] [] [4, 5, 6] [5010] ⟨48, [(4, .own 5010), (5, .int .i64 i7), (6, .int .i64 (0 : Int))], [(5010, q3bS_9 l8)], [], 0⟩ trivial ?_
   refine AWp.le (Le.trans (Le.ren (swapN 5010 3000) (swapN_inv 5010 3000) rfl) (Le.mk (s' := ⟨48, [(4, .own 3000), (5, .int .i64 i7), (6, .int .i64 (0 : Int))], [(3000, q3bS_9 l8)], [], 0⟩) rfl rfl ⟨.refl _, .refl _, .refl _, trivial⟩ ⟨⟨_, rfl, .refl _⟩, trivial⟩)) ?_
   have hret := Option.some.inj h
   subst hret
   refine AWp.le (Le.mk (s' := ⟨48, [(4, .own 3000), (5, .int .i64 i7), (6, .int .i64 (0 : Int))], [(3000, q3bS_9 l8)], [], 0⟩) rfl rfl ⟨.refl _, .refl _, .refl _, trivial⟩ ⟨⟨_, rfl, .refl _⟩, trivial⟩) ?_
   refine AWp.ret ?_
   exact bR _ rfl ⟨rfl, rfl⟩ rfl
def f84 (x1 : List UInt8) : Option (Int × Int × List (List UInt8)) :=
 (f119 x1).bind fun (r2 : Int × Int × List (List UInt8)) =>
 some (r2.1, r2.2.1, r2.2.2)
theorem f84_ok  (x1 : List UInt8) (r : Int × Int × List (List UInt8)) (h : f84 x1 = some r)  : Spec1 Tryz.prog 84 [] [] [] [.str x1] (.tup [.own 3000, .int .i64 r.1, .int .i64 r.2.1]) [(3000, bL 9 1 eS [] r.2.2)] := by
 unfold f84 at h
 refine Spec1.body 0 _ _ Tryz.func84 rfl Tryz.ntmps84 rfl rfl ?_
 refine q3rq [] [] [0] [] ⟨10, [(0, .str x1)], [], [], 0⟩ trivial ?_
 refine AWp.seq ?_
 obtain ⟨r2, hr2, h⟩ := bind_ok h
 refine q3rr [] [(1, ⟨[.str x1, .fn (.func 120) []], [], [], [(6001, q3bS_9 r2.2.2)], .tup [.own 6001, .int .i64 r2.1, .int .i64 r2.2.1], [6001], [], []⟩)] [2, 3, 4] [6001] ⟨10, [(2, .own 6001), (3, .int .i64 r2.1), (4, .int .i64 r2.2.1)], [(6001, q3bS_9 r2.2.2)], [], 0⟩ (an1 (cpT (Spec1.ren (swapN 3000 6001) (swapN_inv 3000 6001) rfl (f119_ok _ _ hr2)))) ?_
 refine tN ?_
 refine AWp.le (Le.trans (Le.ren (swapN 6001 3000) (swapN_inv 6001 3000) rfl) (Le.mk (s' := ⟨10, [(2, .own 3000), (3, .int .i64 r2.1), (4, .int .i64 r2.2.1)], [(3000, q3bS_9 r2.2.2)], [], 0⟩) rfl rfl ⟨.refl _, .refl _, .refl _, trivial⟩ ⟨⟨_, rfl, .refl _⟩, trivial⟩)) ?_
 have hret := Option.some.inj h
 subst hret
 refine AWp.le (Le.mk (s' := ⟨10, [(2, .own 3000), (3, .int .i64 r2.1), (4, .int .i64 r2.2.1)], [(3000, q3bS_9 r2.2.2)], [], 0⟩) rfl rfl ⟨.refl _, .refl _, .refl _, trivial⟩ ⟨⟨_, rfl, .refl _⟩, trivial⟩) ?_
 refine AWp.ret ?_
 exact bR _ rfl ⟨rfl, rfl⟩ rfl
def f103 (x1 : List UInt8) : Option (Int × Bool) := atoiO x1
theorem f103_ok (x1 : List UInt8) (r : Int × Bool) (h : f103 x1 = some r) : Spec1 Tryz.prog 103 [(2, errG), (3, errG)] [] [] [.str x1] (.tup [.int .i64 r.1, .ifc r.2]) [] :=
 atoi_spec Tryz.lays172 rfl rfl rfl x1 r h
def f180 (x1 : Int) (x2 : Int) (x3 : List UInt8) (x4 : Int) (x5 : Int) (x6 : List UInt8) : Option Bool :=
 some ((x1 == x4) && (x2 == x5))
theorem f180_ok  (x1 : Int) (x2 : Int) (x3 : List UInt8) (x4 : Int) (x5 : Int) (x6 : List UInt8) (r : Bool) (h : f180 x1 x2 x3 x4 x5 x6 = some r)  : Spec1 Tryz.prog 180 [] [] [] [.agg [.int .i64 x1, .int .i64 x2, .str x3], .agg [.int .i64 x4, .int .i64 x5, .str x6]] (.bool r) [] := by
 unfold f180 at h
 refine Spec1.body 0 _ _ Tryz.func180 rfl Tryz.ntmps180 rfl rfl ?_
 refine q3rq [] [] [2, 3] [2, 3] ⟨17, [(2, .ptr 2 0), (3, .ptr 3 0)], [(2, .cells 24 [.int .i64 x1, .int .i64 x2, .str x3]), (3, .cells 24 [.int .i64 x4, .int .i64 x5, .str x6])], [], 0⟩ trivial ?_
 refine AWp.seq ?_
 have ob0 := idA (((x1 == x4) == true) = true)
 have ob1 := ob0
 have ob2 := ob0
 have ob3 := ob0
 have ob4 := bqA (x1 == x4) true
 refine q3rr [] [] [4] [] ⟨17, [(4, .bool ((x1 == x4) && (x2 == x5)))], [], [], 0⟩ (an4 (an1 ob0) (an1 ob1) (an2 ob2 ob3) ob4) ?_
 refine tN ?_
 have hret := Option.some.inj h
 subst hret
 refine AWp.le (Le.mk (s' := ⟨17, [(4, .bool ((x1 == x4) && (x2 == x5)))], [], [], 0⟩) rfl rfl ⟨.refl _, trivial⟩ trivial) ?_
 refine AWp.ret ?_
 exact bR _ rfl ⟨rfl, rfl⟩ rfl
def f179 (x1 : Int) (x2 : Int) (x3 : List UInt8) (x4 : Int) (x5 : Int) (x6 : List UInt8) : Option (Bool × Int × Int × List UInt8) :=
 (f180 x1 x2 x3 x4 x5 x6).bind fun (r7 : Bool) =>
 some (r7, x4, x5, x6)
theorem f179_ok  (x1 : Int) (x2 : Int) (x3 : List UInt8) (x4 : Int) (x5 : Int) (x6 : List UInt8) (r : Bool × Int × Int × List UInt8) (h : f179 x1 x2 x3 x4 x5 x6 = some r)  : Spec1 Tryz.prog 179 [] [2000] [(2000, .cells 24 [.int .i64 x4, .int .i64 x5, .str x6])] [.agg [.int .i64 x1, .int .i64 x2, .str x3], .ptr 2000 0] (.bool r.1) [(2000, .cells 24 [.int .i64 r.2.1, .int .i64 r.2.2.1, .str r.2.2.2])] := by
 unfold f179 at h
 refine Spec1.body 0 _ _ Tryz.func179 rfl Tryz.ntmps179 rfl rfl ?_
 refine q3rq [] [] [1, 2] [2, 2000] ⟨7, [(1, .ptr 2000 0), (2, .ptr 2 0)], [(2, .cells 24 [.int .i64 x1, .int .i64 x2, .str x3]), (2000, .cells 24 [.int .i64 x4, .int .i64 x5, .str x6])], [2000], 0⟩ trivial ?_
 refine AWp.seq ?_
 obtain ⟨r7, hr7, h⟩ := bind_ok h
 refine q3rr [] [(2, ⟨[.agg [.int .i64 x1, .int .i64 x2, .str x3], .agg [.int .i64 x4, .int .i64 x5, .str x6]], [], [], [], .bool r7, [], [], []⟩)] [3] [2000] ⟨7, [(3, .bool r7)], [(2000, .cells 24 [.int .i64 x4, .int .i64 x5, .str x6])], [2000], 0⟩ (an1 (cpT (f180_ok _ _ _ _ _ _ _ hr7))) ?_
 refine tN ?_
 have hret := Option.some.inj h
 subst hret
 refine AWp.le (Le.mk (s' := ⟨7, [(3, .bool r7)], [(2000, .cells 24 [.int .i64 x4, .int .i64 x5, .str x6])], [2000], 0⟩) rfl rfl ⟨.refl _, trivial⟩ ⟨⟨_, rfl, .refl _⟩, trivial⟩) ?_
 refine AWp.ret ?_
 exact bR _ rfl ⟨rfl, rfl⟩ rfl
def f191_L0 (x1 : List Tq1) (K1 : Tq1 → Option (Int × Int × Int × List UInt8)) : Nat → (Nat × Int × Int × List UInt8) → Option (Int × Int × Int × List UInt8)
 | 0, _ => none
 | k + 1, (n5, i6, i7, s8) =>
  if (decide ((n5 : Int) < (((x1).length : Nat) : Int))) then (
  (f179 ((x1.getD n5 (default : Tq1)).1) ((x1.getD n5 (default : Tq1)).2.1) ((x1.getD n5 (default : Tq1)).2.2) i6 i7 s8).bind fun (r9 : Bool × Int × Int × List UInt8) =>
  chk ((n5 : Int) < (((x1).length : Nat) : Int)) <|
  if r9.1 then (
  some ((n5 : Int), r9.2.1, r9.2.2.1, r9.2.2.2)
  ) else (
  chk (((n5 : Int) + (1 : Int)) ≤ 9223372036854775807) <|
  (f191_L0 x1 K1 k) ((n5 + 1), r9.2.1, r9.2.2.1, r9.2.2.2)
  )
  ) else (
  K1 (i6, i7, s8)
  )
def f191 (x1 : List Tq1) (x2 : Int) (x3 : Int) (x4 : List UInt8) : Option (Int × Int × Int × List UInt8) :=
 jn (fun ((i10, i11, s12) : Tq1) =>
 some ((-1 : Int), i10, i11, s12)
 ) fun (K1 : Tq1 → Option (Int × Int × Int × List UInt8)) =>
 f191_L0 x1 K1 FUEL (0, x2, x3, x4)
theorem f191_ok  (x1 : List Tq1) (x2 : Int) (x3 : Int) (x4 : List UInt8) (r : Int × Int × Int × List UInt8) (h : f191 x1 x2 x3 x4 = some r)  : Spec1 Tryz.prog 191 [] [2000] [(2000, .cells 24 [.int .i64 x2, .int .i64 x3, .str x4])] [vL 3 eIIS (default : Tq1) x1, .fn (.func 179) [.ptr 2000 0]] (.int .i64 r.1) [(2000, .cells 24 [.int .i64 r.2.1, .int .i64 r.2.2.1, .str r.2.2.2])] := by
 unfold f191 at h
 refine Spec1.body 0 _ _ Tryz.func191 rfl Tryz.ntmps191 rfl rfl ?_
 refine q3rq [] [] [0, 1] [2000] ⟨19, [(0, q3aIIS x1), (1, .fn (.func 179) [.ptr 2000 0])], [(2000, .cells 24 [.int .i64 x2, .int .i64 x3, .str x4])], [2000], 0⟩ trivial ?_
 obtain ⟨K1, hK1, h⟩ := jn_some h
 refine AWp.join (α := Int × Int × List UInt8) (fun (x : Tq1) => match x with | (i10, i11, s12) => ⟨19, [], [(2000, .cells 24 [.int .i64 i10, .int .i64 i11, .str s12])], [2000], 0⟩) (fun x => K1 x = some r) ?_ ?_
 ·
  refine q3rq [] [] [0, 1, 7, 8] [2000] ⟨19, [(0, q3aIIS x1), (1, .fn (.func 179) [.ptr 2000 0]), (7, .int .i64 (((x1).length : Nat) : Int)), (8, .int .i64 (0 : Int))], [(2000, .cells 24 [.int .i64 x2, .int .i64 x3, .str x4])], [2000], 0⟩ trivial ?_
  refine AWp.block ?_
  refine AWp.loopL (α := Nat × (Nat × Int × Int × List UInt8)) (fun x => match x with | (_, n5, i6, i7, s8) => ⟨19, [(0, q3aIIS x1), (1, .fn (.func 179) [.ptr 2000 0]), (7, .int .i64 (((x1).length : Nat) : Int)), (8, .int .i64 (n5 : Int))], [(2000, .cells 24 [.int .i64 i6, .int .i64 i7, .str s8])], [2000], 0⟩) (fun x => f191_L0 x1 K1 x.1 x.2 = some r) (fun x => x.1) (FUEL, 0, x2, x3, x4) (Le.mk (s' := ⟨19, [(0, q3aIIS x1), (1, .fn (.func 179) [.ptr 2000 0]), (7, .int .i64 (((x1).length : Nat) : Int)), (8, .int .i64 (0 : Int))], [(2000, .cells 24 [.int .i64 x2, .int .i64 x3, .str x4])], [2000], 0⟩) rfl rfl ⟨.refl _, .refl _, .refl _, .refl _, trivial⟩ ⟨⟨_, rfl, .refl _⟩, trivial⟩) h ?_
  rintro ⟨k0, n5, i6, i7, s8⟩ h
  cases k0 with
  | zero => exact nomatch (show (none : Option (Int × Int × Int × List UInt8)) = some r from h)
  | succ k0 =>
  obtain ⟨C0, hC0⟩ : ∃ C, C = f191_L0 x1 K1 k0 := ⟨_, rfl⟩
  replace h := (f191_L0.eq_2 ..).symm.trans h
  try rw [← hC0] at h
  refine q3rq [] [] [0, 1, 7, 8, 9] [2000] ⟨19, [(0, q3aIIS x1), (1, .fn (.func 179) [.ptr 2000 0]), (7, .int .i64 (((x1).length : Nat) : Int)), (8, .int .i64 (n5 : Int)), (9, .bool (decide ((n5 : Int) < (((x1).length : Nat) : Int))))], [(2000, .cells 24 [.int .i64 i6, .int .i64 i7, .str s8])], [2000], 0⟩ trivial ?_
  refine AWp.seq ?_
  refine AWp.cond (b := (decide ((n5 : Int) < (((x1).length : Nat) : Int)))) (by kernel_rfl) (fun hc1 => ?_) (fun hc1 => ?_)
  ·
   replace h := ite_tb hc1 h
   refine AWp.skip ?_
   refine tN ?_
   refine AWp.seq ?_
   refine AWp.block ?_
   refine q3rq [] [] [0, 1, 5, 7, 8] [2000] ⟨19, [(0, q3aIIS x1), (1, .fn (.func 179) [.ptr 2000 0]), (5, .int .i64 (n5 : Int)), (7, .int .i64 (((x1).length : Nat) : Int)), (8, .int .i64 (n5 : Int))], [(2000, .cells 24 [.int .i64 i6, .int .i64 i7, .str s8])], [2000], 0⟩ trivial ?_
   refine AWp.seq ?_
   obtain ⟨r9, hr9, h⟩ := bind_ok h
   obtain ⟨ob0p, h⟩ := chk_some h
   have ob0 : 0 ≤ (n5 : Int) ∧ (n5 : Int) < (((x1).length : Nat) : Int) := ⟨by omega, ob0p⟩
   refine q3rr [] [(5, ⟨[.agg [.int .i64 (x1.getD n5 q3dIIS).1, .int .i64 (x1.getD n5 q3dIIS).2.1, .str (x1.getD n5 q3dIIS).2.2], .ptr 2000 0], [2000], [2000], [(2000, .cells 24 [.int .i64 r9.2.1, .int .i64 r9.2.2.1, .str r9.2.2.2])], .bool r9.1, [], [], []⟩)] [0, 1, 5, 7, 8, 16] [2000] ⟨19, [(0, q3aIIS x1), (1, .fn (.func 179) [.ptr 2000 0]), (5, .int .i64 (n5 : Int)), (7, .int .i64 (((x1).length : Nat) : Int)), (8, .int .i64 (n5 : Int)), (16, .bool r9.1)], [(2000, .cells 24 [.int .i64 r9.2.1, .int .i64 r9.2.2.1, .str r9.2.2.2])], [2000], 0⟩ (an2 ob0 (cpT (f179_ok _ _ _ _ _ _ _ hr9))) ?_
   refine tN ?_
   refine AWp.cond (b := r9.1) (by kernel_rfl) (fun hc2 => ?_) (fun hc2 => ?_)
   ·
    replace h := ite_tb hc2 h
    refine q3rq [] [] [4] [2000] ⟨19, [(4, .int .i64 (n5 : Int))], [(2000, .cells 24 [.int .i64 r9.2.1, .int .i64 r9.2.2.1, .str r9.2.2.2])], [2000], 0⟩ trivial ?_
    have hret := Option.some.inj h
    subst hret
    refine AWp.le (Le.mk (s' := ⟨19, [(4, .int .i64 (n5 : Int))], [(2000, .cells 24 [.int .i64 r9.2.1, .int .i64 r9.2.2.1, .str r9.2.2.2])], [2000], 0⟩) rfl rfl ⟨.refl _, trivial⟩ ⟨⟨_, rfl, .refl _⟩, trivial⟩) ?_
    refine AWp.ret ?_
    refine kR ?_
    refine tR ?_
    refine tR ?_
    refine kR ?_
    refine joinQ_ret ?_
    exact bR _ rfl ⟨rfl, rfl⟩ rfl
   ·
    replace h := ite_fb hc2 h
    refine AWp.skip ?_
    refine kN ?_
    refine tN ?_
    obtain ⟨ob1p, h⟩ := chk_some h
    have ob1 : -9223372036854775808 ≤ ((n5 : Int) + (1 : Int)) ∧ ((n5 : Int) + (1 : Int)) ≤ 9223372036854775807 := ⟨by omega, ob1p⟩
    refine q3rr [] [] [0, 1, 7, 8] [2000] ⟨19, [(0, q3aIIS x1), (1, .fn (.func 179) [.ptr 2000 0]), (7, .int .i64 (((x1).length : Nat) : Int)), (8, .int .i64 (((n5 + 1) : Nat) : Int))], [(2000, .cells 24 [.int .i64 r9.2.1, .int .i64 r9.2.2.1, .str r9.2.2.2])], [2000], 0⟩ (an1 ob1) ?_
    rw [hC0] at h
    exact lN (_, (n5 + 1), r9.2.1, r9.2.2.1, r9.2.2.2) (Le.mk rfl rfl ⟨.refl _, .refl _, .refl _, .refl _, trivial⟩ ⟨⟨_, rfl, .refl _⟩, trivial⟩) h (Nat.lt_succ_self _)
  ·
   replace h := ite_fb hc1 h
   refine AWp.exit ?_
   refine tE ?_
   refine tE ?_
   refine kS ?_
   exact jN (i6, i7, s8) (Le.mk rfl rfl trivial ⟨⟨_, rfl, .refl _⟩, trivial⟩) h
 ·
  rintro ⟨i10, i11, s12⟩ h
  replace h := (congrFun hK1 _).symm.trans h
  refine q3rq [] [] [4] [2000] ⟨19, [(4, .int .i64 (-1 : Int))], [(2000, .cells 24 [.int .i64 i10, .int .i64 i11, .str s12])], [2000], 0⟩ trivial ?_
  have hret := Option.some.inj h
  subst hret
  refine AWp.le (Le.mk (s' := ⟨19, [(4, .int .i64 (-1 : Int))], [(2000, .cells 24 [.int .i64 i10, .int .i64 i11, .str s12])], [2000], 0⟩) rfl rfl ⟨.refl _, trivial⟩ ⟨⟨_, rfl, .refl _⟩, trivial⟩) ?_
  refine AWp.ret ?_
  exact bR _ rfl ⟨rfl, rfl⟩ rfl
def f178 (x1 : List Tq1) (x2 : Int) (x3 : Int) (x4 : List UInt8) : Option (Bool × Int × Int × List UInt8) :=
 (f191 x1 x2 x3 x4).bind fun (r5 : Int × Int × Int × List UInt8) =>
 some ((decide (r5.1 ≥ (0 : Int))), r5.2.1, r5.2.2.1, r5.2.2.2)
theorem f178_ok  (x1 : List Tq1) (x2 : Int) (x3 : Int) (x4 : List UInt8) (r : Bool × Int × Int × List UInt8) (h : f178 x1 x2 x3 x4 = some r)  : Spec1 Tryz.prog 178 [] [2000] [(2000, .cells 24 [.int .i64 x2, .int .i64 x3, .str x4])] [vL 3 eIIS (default : Tq1) x1, .fn (.func 179) [.ptr 2000 0]] (.bool r.1) [(2000, .cells 24 [.int .i64 r.2.1, .int .i64 r.2.2.1, .str r.2.2.2])] := by
 unfold f178 at h
 refine Spec1.body 0 _ _ Tryz.func178 rfl Tryz.ntmps178 rfl rfl ?_
 refine q3rq [] [] [0, 1] [2000] ⟨9, [(0, q3aIIS x1), (1, .fn (.func 179) [.ptr 2000 0])], [(2000, .cells 24 [.int .i64 x2, .int .i64 x3, .str x4])], [2000], 0⟩ trivial ?_
 refine AWp.seq ?_
 obtain ⟨r5, hr5, h⟩ := bind_ok h
 refine q3rr [] [(2, ⟨[q3aIIS x1, .fn (.func 179) [.ptr 2000 0]], [2000], [2000], [(2000, .cells 24 [.int .i64 r5.2.1, .int .i64 r5.2.2.1, .str r5.2.2.2])], .int .i64 r5.1, [], [], []⟩)] [4] [2000] ⟨9, [(4, .bool (decide (r5.1 ≥ (0 : Int))))], [(2000, .cells 24 [.int .i64 r5.2.1, .int .i64 r5.2.2.1, .str r5.2.2.2])], [2000], 0⟩ (an1 (cpT (f191_ok _ _ _ _ _ hr5))) ?_
 refine tN ?_
 have hret := Option.some.inj h
 subst hret
 refine AWp.le (Le.mk (s' := ⟨9, [(4, .bool (decide (r5.1 ≥ (0 : Int))))], [(2000, .cells 24 [.int .i64 r5.2.1, .int .i64 r5.2.2.1, .str r5.2.2.2])], [2000], 0⟩) rfl rfl ⟨.refl _, trivial⟩ ⟨⟨_, rfl, .refl _⟩, trivial⟩) ?_
 refine AWp.ret ?_
 exact bR _ rfl ⟨rfl, rfl⟩ rfl
def f159 (x1 : List Tq1) (x2 : Int) (x3 : Int) (x4 : List UInt8) : Option Bool :=
 (f178 x1 x2 x3 x4).bind fun (r5 : Bool × Int × Int × List UInt8) =>
 some r5.1
theorem f159_ok  (x1 : List Tq1) (x2 : Int) (x3 : Int) (x4 : List UInt8) (r : Bool) (h : f159 x1 x2 x3 x4 = some r)  : Spec1 Tryz.prog 159 [] [] [] [vL 3 eIIS (default : Tq1) x1, .agg [.int .i64 x2, .int .i64 x3, .str x4]] (.bool r) [] := by
 unfold f159 at h
 refine Spec1.body 0 _ _ Tryz.func159 rfl Tryz.ntmps159 rfl rfl ?_
 refine q3rq [] [] [0, 3] [3] ⟨8, [(0, q3aIIS x1), (3, .ptr 3 0)], [(3, .cells 24 [.int .i64 x2, .int .i64 x3, .str x4])], [], 0⟩ trivial ?_
 refine AWp.seq ?_
 obtain ⟨r5, hr5, h⟩ := bind_ok h
 refine q3rr [] [(2, ⟨[q3aIIS x1, .fn (.func 179) [.ptr 3 0]], [3], [3], [(3, .cells 24 [.int .i64 r5.2.1, .int .i64 r5.2.2.1, .str r5.2.2.2])], .bool r5.1, [], [], []⟩)] [4] [] ⟨8, [(4, .bool r5.1)], [], [], 0⟩ (an1 (cpT (Spec1.ren (swapN 2000 3) (swapN_inv 2000 3) rfl (f178_ok _ _ _ _ _ hr5)))) ?_
 refine tN ?_
 have hret := Option.some.inj h
 subst hret
 refine AWp.le (Le.mk (s' := ⟨8, [(4, .bool r5.1)], [], [], 0⟩) rfl rfl ⟨.refl _, trivial⟩ trivial) ?_
 refine AWp.ret ?_
 exact bR _ rfl ⟨rfl, rfl⟩ rfl
def f136_L0 (x1 : List Tq1) (K1 : Unit → Option Int) : Nat → Nat → Option Int
 | 0, _ => none
 | k + 1, n2 =>
  if (decide ((n2 : Int) < (((x1).length : Nat) : Int))) then (
  chk ((n2 : Int) < (((x1).length : Nat) : Int)) <|
  if ((((decide ((x1.getD n2 (default : Tq1)).1 < (0 : Int))) || (decide ((x1.getD n2 (default : Tq1)).1 ≥ (6 : Int)))) || (decide ((x1.getD n2 (default : Tq1)).2.1 < (1 : Int)))) || (decide ((x1.getD n2 (default : Tq1)).2.1 > (1000000 : Int)))) then (
  some (7 : Int)
  ) else (
  if (((x1.getD n2 (default : Tq1)).2.2) == []) then (
  some (9 : Int)
  ) else (
  if (decide (((((x1.getD n2 (default : Tq1)).2.2).length : Nat) : Int) > (200 : Int))) then (
  some (3 : Int)
  ) else (
  (f159 (x1.take n2) ((x1.getD n2 (default : Tq1)).1) ((x1.getD n2 (default : Tq1)).2.1) ((x1.getD n2 (default : Tq1)).2.2)).bind fun (r3 : Bool) =>
  chk ((n2 : Int) ≤ (((x1).length : Nat) : Int)) <|
  if r3 then (
  some (5 : Int)
  ) else (
  chk (((n2 : Int) + (1 : Int)) ≤ 9223372036854775807) <|
  (f136_L0 x1 K1 k) (n2 + 1)
  )
  )
  )
  )
  ) else (
  K1 ()
  )
theorem f136_L0_e2 (x1 : List Tq1) (K1 : Unit → Option Int) (k : Nat) (n2 : Nat) : f136_L0 x1 K1 (k + 1) n2 =
  if (decide ((n2 : Int) < (((x1).length : Nat) : Int))) then (
  chk ((n2 : Int) < (((x1).length : Nat) : Int)) <|
  if ((((decide ((x1.getD n2 (default : Tq1)).1 < (0 : Int))) || (decide ((x1.getD n2 (default : Tq1)).1 ≥ (6 : Int)))) || (decide ((x1.getD n2 (default : Tq1)).2.1 < (1 : Int)))) || (decide ((x1.getD n2 (default : Tq1)).2.1 > (1000000 : Int)))) then (
  some (7 : Int)
  ) else (
  if (((x1.getD n2 (default : Tq1)).2.2) == []) then (
  some (9 : Int)
  ) else (
  if (decide (((((x1.getD n2 (default : Tq1)).2.2).length : Nat) : Int) > (200 : Int))) then (
  some (3 : Int)
  ) else (
  (f159 (x1.take n2) ((x1.getD n2 (default : Tq1)).1) ((x1.getD n2 (default : Tq1)).2.1) ((x1.getD n2 (default : Tq1)).2.2)).bind fun (r3 : Bool) =>
  chk ((n2 : Int) ≤ (((x1).length : Nat) : Int)) <|
  if r3 then (
  some (5 : Int)
  ) else (
  chk (((n2 : Int) + (1 : Int)) ≤ 9223372036854775807) <|
  (f136_L0 x1 K1 k) (n2 + 1)
  )
  )
  )
  )
  ) else (
  K1 ()
  ) := rfl
def f136 (x1 : List Tq1) : Option Int :=
 jn (fun (_ : Unit) =>
 some (0 : Int)
 ) fun (K1 : Unit → Option Int) =>
 f136_L0 x1 K1 FUEL 0
theorem f136_ok  (x1 : List Tq1) (r : Int) (h : f136 x1 = some r)  : Spec1 Tryz.prog 136 [] [] [] [vL 3 eIIS (default : Tq1) x1] (.int .i64 r) [] := by
 unfold f136 at h
 refine Spec1.body 0 _ _ Tryz.func136 rfl Tryz.ntmps136 rfl rfl ?_
 refine q3rq [] [] [0] [] ⟨47, [(0, q3aIIS x1)], [], [], 0⟩ trivial ?_
 obtain ⟨K1, hK1, h⟩ := jn_some h
 refine AWp.join (α := Unit) (fun (x : Unit) => match x with | () => ⟨47, [], [], [], 0⟩) (fun x => K1 x = some r) ?_ ?_
 ·
  refine q3rq [] [] [0, 5, 6, 7] [] ⟨47, [(0, q3aIIS x1), (5, q3aIIS x1), (6, .int .i64 (((x1).length : Nat) : Int)), (7, .int .i64 (0 : Int))], [], [], 0⟩ trivial ?_
  refine AWp.block ?_
  refine AWp.loopL (α := Nat × Nat) (fun x => match x with | (_, n2) => ⟨47, [(0, q3aIIS x1), (5, q3aIIS x1), (6, .int .i64 (((x1).length : Nat) : Int)), (7, .int .i64 (n2 : Int))], [], [], 0⟩) (fun x => f136_L0 x1 K1 x.1 x.2 = some r) (fun x => x.1) (FUEL, 0) (Le.mk (s' := ⟨47, [(0, q3aIIS x1), (5, q3aIIS x1), (6, .int .i64 (((x1).length : Nat) : Int)), (7, .int .i64 (0 : Int))], [], [], 0⟩) rfl rfl ⟨.refl _, .refl _, .refl _, .refl _, trivial⟩ trivial) h ?_
  rintro ⟨k0, n2⟩ h
  cases k0 with
  | zero => exact nomatch (show (none : Option Int) = some r from h)
  | succ k0 =>
  obtain ⟨C0, hC0⟩ : ∃ C, C = f136_L0 x1 K1 k0 := ⟨_, rfl⟩
  replace h := (f136_L0_e2 ..).symm.trans h
  try rw [← hC0] at h
  refine q3rq [] [] [0, 5, 6, 7, 8] [] ⟨47, [(0, q3aIIS x1), (5, q3aIIS x1), (6, .int .i64 (((x1).length : Nat) : Int)), (7, .int .i64 (n2 : Int)), (8, .bool (decide ((n2 : Int) < (((x1).length : Nat) : Int))))], [], [], 0⟩ trivial ?_
  refine AWp.seq ?_
  refine AWp.cond (b := (decide ((n2 : Int) < (((x1).length : Nat) : Int)))) (by kernel_rfl) (fun hc1 => ?_) (fun hc1 => ?_)
  ·
   replace h := ite_tb hc1 h
   refine AWp.skip ?_
   refine tN ?_
   refine AWp.seq ?_
   refine AWp.block ?_
   refine AWp.seq ?_
   obtain ⟨ob0p, h⟩ := chk_some h
   have ob0 : 0 ≤ (n2 : Int) ∧ (n2 : Int) < (((x1).length : Nat) : Int) := ⟨by omega, ob0p⟩
   refine q3rr [] [] [0, 3, 4, 5, 6, 7] [4] ⟨47, [(0, q3aIIS x1), (3, .int .i64 (n2 : Int)), (4, .ptr 4 0), (5, q3aIIS x1), (6, .int .i64 (((x1).length : Nat) : Int)), (7, .int .i64 (n2 : Int))], [(4, .cells 24 [.int .i64 (x1.getD n2 q3dIIS).1, .int .i64 (x1.getD n2 q3dIIS).2.1, .str (x1.getD n2 q3dIIS).2.2])], [], 0⟩ (an2 ob0 trivial) ?_
   refine tN ?_
   refine AWp.block ?_
   refine AWp.seq ?_
   have ob1 := idA (((decide ((x1.getD n2 q3dIIS).1 < (0 : Int))) == false) = true)
   have ob2 := ob1
   have ob3 := bqA (decide ((x1.getD n2 q3dIIS).1 < (0 : Int))) false
   have ob4 := idA ((((decide ((x1.getD n2 q3dIIS).1 < (0 : Int))) || (decide ((x1.getD n2 q3dIIS).1 ≥ (6 : Int)))) == false) = true)
   have ob5 := ob4
   have ob6 := bqA ((decide ((x1.getD n2 q3dIIS).1 < (0 : Int))) || (decide ((x1.getD n2 q3dIIS).1 ≥ (6 : Int)))) false
   have ob7 := idA (((((decide ((x1.getD n2 q3dIIS).1 < (0 : Int))) || (decide ((x1.getD n2 q3dIIS).1 ≥ (6 : Int)))) || (decide ((x1.getD n2 q3dIIS).2.1 < (1 : Int)))) == false) = true)
   have ob8 := ob7
   have ob9 := bqA (((decide ((x1.getD n2 q3dIIS).1 < (0 : Int))) || (decide ((x1.getD n2 q3dIIS).1 ≥ (6 : Int)))) || (decide ((x1.getD n2 q3dIIS).2.1 < (1 : Int)))) false
   refine q3rr [] [] [0, 3, 4, 5, 6, 7, 12] [4] ⟨47, [(0, q3aIIS x1), (3, .int .i64 (n2 : Int)), (4, .ptr 4 0), (5, q3aIIS x1), (6, .int .i64 (((x1).length : Nat) : Int)), (7, .int .i64 (n2 : Int)), (12, .bool ((((decide ((x1.getD n2 q3dIIS).1 < (0 : Int))) || (decide ((x1.getD n2 q3dIIS).1 ≥ (6 : Int)))) || (decide ((x1.getD n2 q3dIIS).2.1 < (1 : Int)))) || (decide ((x1.getD n2 q3dIIS).2.1 > (1000000 : Int)))))], [(4, .cells 24 [.int .i64 (x1.getD n2 q3dIIS).1, .int .i64 (x1.getD n2 q3dIIS).2.1, .str (x1.getD n2 q3dIIS).2.2])], [], 0⟩ (ac6 (an1 ob1) (an1 ob2) ob3 (an1 ob4) (an1 ob5) ob6 (an3 (an1 ob7) (an1 ob8) ob9)) ?_
   refine tN ?_
   refine AWp.cond (b := ((((decide ((x1.getD n2 q3dIIS).1 < (0 : Int))) || (decide ((x1.getD n2 q3dIIS).1 ≥ (6 : Int)))) || (decide ((x1.getD n2 q3dIIS).2.1 < (1 : Int)))) || (decide ((x1.getD n2 q3dIIS).2.1 > (1000000 : Int))))) (by kernel_rfl) (fun hc2 => ?_) (fun hc2 => ?_)
   ·
    replace h := ite_tb hc2 h
    refine q3rq [] [] [2] [] ⟨47, [(2, .int .i64 (7 : Int))], [], [], 0⟩ trivial ?_
    have hret := Option.some.inj h
    subst hret
    refine AWp.le (Le.mk (s' := ⟨47, [(2, .int .i64 (7 : Int))], [], [], 0⟩) rfl rfl ⟨.refl _, trivial⟩ trivial) ?_
    refine AWp.ret ?_
    refine kR ?_
    refine kR ?_
    refine tR ?_
    refine tR ?_
    refine kR ?_
    refine joinQ_ret ?_
    exact bR _ rfl ⟨rfl, rfl⟩ rfl
   ·
    replace h := ite_fb hc2 h
    refine q3rq [] [] [0, 3, 4, 5, 6, 7, 31] [4] ⟨47, [(0, q3aIIS x1), (3, .int .i64 (n2 : Int)), (4, .ptr 4 0), (5, q3aIIS x1), (6, .int .i64 (((x1).length : Nat) : Int)), (7, .int .i64 (n2 : Int)), (31, .bool (((x1.getD n2 q3dIIS).2.2) == []))], [(4, .cells 24 [.int .i64 (x1.getD n2 q3dIIS).1, .int .i64 (x1.getD n2 q3dIIS).2.1, .str (x1.getD n2 q3dIIS).2.2])], [], 0⟩ trivial ?_
    refine AWp.cond (b := (((x1.getD n2 q3dIIS).2.2) == [])) (by kernel_rfl) (fun hc3 => ?_) (fun hc3 => ?_)
    ·
     replace h := ite_tb hc3 h
     refine q3rq [] [] [2] [] ⟨47, [(2, .int .i64 (9 : Int))], [], [], 0⟩ trivial ?_
     have hret := Option.some.inj h
     subst hret
     refine AWp.le (Le.mk (s' := ⟨47, [(2, .int .i64 (9 : Int))], [], [], 0⟩) rfl rfl ⟨.refl _, trivial⟩ trivial) ?_
     refine AWp.ret ?_
     refine kR ?_
     refine kR ?_
     refine tR ?_
     refine tR ?_
     refine kR ?_
     refine joinQ_ret ?_
     exact bR _ rfl ⟨rfl, rfl⟩ rfl
    ·
     replace h := ite_fb hc3 h
     refine q3rq [] [] [0, 3, 4, 5, 6, 7, 35] [4] ⟨47, [(0, q3aIIS x1), (3, .int .i64 (n2 : Int)), (4, .ptr 4 0), (5, q3aIIS x1), (6, .int .i64 (((x1).length : Nat) : Int)), (7, .int .i64 (n2 : Int)), (35, .bool (decide (((((x1.getD n2 q3dIIS).2.2).length : Nat) : Int) > (200 : Int))))], [(4, .cells 24 [.int .i64 (x1.getD n2 q3dIIS).1, .int .i64 (x1.getD n2 q3dIIS).2.1, .str (x1.getD n2 q3dIIS).2.2])], [], 0⟩ trivial ?_
     refine AWp.cond (b := (decide (((((x1.getD n2 q3dIIS).2.2).length : Nat) : Int) > (200 : Int)))) (by kernel_rfl) (fun hc4 => ?_) (fun hc4 => ?_)
     ·
      replace h := ite_tb hc4 h
      refine q3rq [] [] [2] [] ⟨47, [(2, .int .i64 (3 : Int))], [], [], 0⟩ trivial ?_
      have hret := Option.some.inj h
      subst hret
      refine AWp.le (Le.mk (s' := ⟨47, [(2, .int .i64 (3 : Int))], [], [], 0⟩) rfl rfl ⟨.refl _, trivial⟩ trivial) ?_
      refine AWp.ret ?_
      refine kR ?_
      refine kR ?_
      refine tR ?_
      refine tR ?_
      refine kR ?_
      refine joinQ_ret ?_
      exact bR _ rfl ⟨rfl, rfl⟩ rfl
     ·
      replace h := ite_fb hc4 h
      refine AWp.seq ?_
      obtain ⟨r3, hr3, h⟩ := bind_ok h
      obtain ⟨ob10p, h⟩ := chk_some h
      have ob10 : 0 ≤ (n2 : Int) ∧ (n2 : Int) ≤ (((x1).length : Nat) : Int) := ⟨by omega, ob10p⟩
      refine q3rr [] [(4, ⟨[q3aIIS (x1.take n2), .agg [.int .i64 (x1.getD n2 q3dIIS).1, .int .i64 (x1.getD n2 q3dIIS).2.1, .str (x1.getD n2 q3dIIS).2.2]], [], [], [], .bool r3, [], [], []⟩)] [0, 5, 6, 7, 40] [] ⟨47, [(0, q3aIIS x1), (5, q3aIIS x1), (6, .int .i64 (((x1).length : Nat) : Int)), (7, .int .i64 (n2 : Int)), (40, .bool r3)], [], [], 0⟩ (an2 ob10 (cpL (c := true) [] [] [.arr 3 n2 (encF eIIS q3dIIS x1), .agg [.int .i64 (x1.getD n2 q3dIIS).1, .int .i64 (x1.getD n2 q3dIIS).2.1, .str (x1.getD n2 q3dIIS).2.2]] (fun _ => (f159_ok _ _ _ _ _ hr3)) (fun _ => ⟨(VLe.takeL (by first | omega | (simp only [List.length_append, List.length_cons, List.length_nil, List.length_take, List.length_drop] at *; omega) | (simp; done) | (simp_all; done) | (simp_all; omega) | rfl)), .refl _, trivial⟩) (.inl rfl))) ?_
      refine tN ?_
      refine AWp.cond (b := r3) (by kernel_rfl) (fun hc5 => ?_) (fun hc5 => ?_)
      ·
       replace h := ite_tb hc5 h
       refine q3rq [] [] [2] [] ⟨47, [(2, .int .i64 (5 : Int))], [], [], 0⟩ trivial ?_
       have hret := Option.some.inj h
       subst hret
       refine AWp.le (Le.mk (s' := ⟨47, [(2, .int .i64 (5 : Int))], [], [], 0⟩) rfl rfl ⟨.refl _, trivial⟩ trivial) ?_
       refine AWp.ret ?_
       refine kR ?_
       refine kR ?_
       refine tR ?_
       refine tR ?_
       refine kR ?_
       refine joinQ_ret ?_
       exact bR _ rfl ⟨rfl, rfl⟩ rfl
      ·
       replace h := ite_fb hc5 h
       refine AWp.skip ?_
       refine kN ?_
       refine kN ?_
       refine tN ?_
       obtain ⟨ob11p, h⟩ := chk_some h
       have ob11 : -9223372036854775808 ≤ ((n2 : Int) + (1 : Int)) ∧ ((n2 : Int) + (1 : Int)) ≤ 9223372036854775807 := ⟨by omega, ob11p⟩
       refine q3rr [] [] [0, 5, 6, 7] [] ⟨47, [(0, q3aIIS x1), (5, q3aIIS x1), (6, .int .i64 (((x1).length : Nat) : Int)), (7, .int .i64 (((n2 + 1) : Nat) : Int))], [], [], 0⟩ (an1 ob11) ?_
       rw [hC0] at h
       exact lN (_, (n2 + 1)) (Le.mk rfl rfl ⟨.refl _, .refl _, .refl _, .refl _, trivial⟩ trivial) h (Nat.lt_succ_self _)
  ·
   replace h := ite_fb hc1 h
   refine AWp.exit ?_
   refine tE ?_
   refine tE ?_
   refine kS ?_
   exact jN () (Le.mk rfl rfl trivial trivial) h
 ·
  rintro ⟨⟩ h
  replace h := (congrFun hK1 _).symm.trans h
  refine q3rq [] [] [2] [] ⟨47, [(2, .int .i64 (0 : Int))], [], [], 0⟩ trivial ?_
  have hret := Option.some.inj h
  subst hret
  refine AWp.le (Le.mk (s' := ⟨47, [(2, .int .i64 (0 : Int))], [], [], 0⟩) rfl rfl ⟨.refl _, trivial⟩ trivial) ?_
  refine AWp.ret ?_
  exact bR _ rfl ⟨rfl, rfl⟩ rfl
def f104 (x1 : Int) (x2 : Int) (x3 : List Tq1) : Option Int :=
 if (x1 == (1 : Int)) then (
 if (x2 != (0 : Int)) then (
 some (1 : Int)
 ) else (
 if (decide ((((x3).length : Nat) : Int) > (8 : Int))) then (
 some (3 : Int)
 ) else (
 (f136 x3).bind fun (r4 : Int) =>
 some r4
 )
 )
 ) else (
 if (x1 == (2 : Int)) then (
 if (((decide (x2 < (0 : Int))) || (decide (x2 ≥ (6 : Int)))) || (decide ((((x3).length : Nat) : Int) > (0 : Int)))) then (
 some (1 : Int)
 ) else (
 some (0 : Int)
 )
 ) else (
 if (x1 == (3 : Int)) then (
 if ((x2 != (0 : Int)) || (decide ((((x3).length : Nat) : Int) > (0 : Int)))) then (
 some (1 : Int)
 ) else (
 some (0 : Int)
 )
 ) else (
 some (1 : Int)
 )
 )
 )
theorem f104_ok  (x1 : Int) (x2 : Int) (x3 : List Tq1) (r : Int) (h : f104 x1 x2 x3 = some r)  : Spec1 Tryz.prog 104 [] [] [] [.agg [.int .i64 x1, .int .i64 x2, vL 3 eIIS (default : Tq1) x3]] (.int .i64 r) [] := by
 unfold f104 at h
 refine Spec1.body 0 _ _ Tryz.func104 rfl Tryz.ntmps104 rfl rfl ?_
 refine q3rq [] [] [1] [1] ⟨44, [(1, .ptr 1 0)], [(1, .cells 79 [.int .i64 x1, .int .i64 x2, q3aIIS x3])], [], 0⟩ trivial ?_
 refine AWp.seq ?_
 refine q3rq [] [] [1, 4] [1] ⟨44, [(1, .ptr 1 0), (4, .int .i64 x1)], [(1, .cells 79 [.int .i64 x1, .int .i64 x2, q3aIIS x3])], [], 0⟩ trivial ?_
 refine AWp.block ?_
 refine q3rq [] [] [1, 4, 5] [1] ⟨44, [(1, .ptr 1 0), (4, .int .i64 x1), (5, .bool (x1 == (1 : Int)))], [(1, .cells 79 [.int .i64 x1, .int .i64 x2, q3aIIS x3])], [], 0⟩ trivial ?_
 refine AWp.cond (b := (x1 == (1 : Int))) (by kernel_rfl) (fun hc1 => ?_) (fun hc1 => ?_)
 ·
  replace h := ite_tb hc1 h
  refine AWp.seq ?_
  refine q3rq [] [] [1, 9] [1] ⟨44, [(1, .ptr 1 0), (9, .bool (x2 != (0 : Int)))], [(1, .cells 79 [.int .i64 x1, .int .i64 x2, q3aIIS x3])], [], 0⟩ trivial ?_
  refine AWp.cond (b := (x2 != (0 : Int))) (by kernel_rfl) (fun hc2 => ?_) (fun hc2 => ?_)
  ·
   replace h := ite_tb hc2 h
   refine q3rq [] [] [2] [] ⟨44, [(2, .int .i64 (1 : Int))], [], [], 0⟩ trivial ?_
   have hret := Option.some.inj h
   subst hret
   refine AWp.le (Le.mk (s' := ⟨44, [(2, .int .i64 (1 : Int))], [], [], 0⟩) rfl rfl ⟨.refl _, trivial⟩ trivial) ?_
   refine AWp.ret ?_
   refine tR ?_
   refine kR ?_
   refine tR ?_
   exact bR _ rfl ⟨rfl, rfl⟩ rfl
  ·
   replace h := ite_fb hc2 h
   refine AWp.skip ?_
   refine tN ?_
   refine AWp.seq ?_
   refine q3rq [] [] [1, 13] [1] ⟨44, [(1, .ptr 1 0), (13, .bool (decide ((((x3).length : Nat) : Int) > (8 : Int))))], [(1, .cells 79 [.int .i64 x1, .int .i64 x2, q3aIIS x3])], [], 0⟩ trivial ?_
   refine AWp.cond (b := (decide ((((x3).length : Nat) : Int) > (8 : Int)))) (by kernel_rfl) (fun hc3 => ?_) (fun hc3 => ?_)
   ·
    replace h := ite_tb hc3 h
    refine q3rq [] [] [2] [] ⟨44, [(2, .int .i64 (3 : Int))], [], [], 0⟩ trivial ?_
    have hret := Option.some.inj h
    subst hret
    refine AWp.le (Le.mk (s' := ⟨44, [(2, .int .i64 (3 : Int))], [], [], 0⟩) rfl rfl ⟨.refl _, trivial⟩ trivial) ?_
    refine AWp.ret ?_
    refine tR ?_
    refine kR ?_
    refine tR ?_
    exact bR _ rfl ⟨rfl, rfl⟩ rfl
   ·
    replace h := ite_fb hc3 h
    refine AWp.skip ?_
    refine tN ?_
    refine AWp.seq ?_
    obtain ⟨r4, hr4, h⟩ := bind_ok h
    refine q3rr [] [(2, ⟨[q3aIIS x3], [], [], [], .int .i64 r4, [], [], []⟩)] [2] [] ⟨44, [(2, .int .i64 r4)], [], [], 0⟩ (an1 (cpT (f136_ok _ _ hr4))) ?_
    refine tN ?_
    have hret := Option.some.inj h
    subst hret
    refine AWp.le (Le.mk (s' := ⟨44, [(2, .int .i64 r4)], [], [], 0⟩) rfl rfl ⟨.refl _, trivial⟩ trivial) ?_
    refine AWp.ret ?_
    refine kR ?_
    refine tR ?_
    exact bR _ rfl ⟨rfl, rfl⟩ rfl
 ·
  replace h := ite_fb hc1 h
  refine q3rq [] [] [1, 4, 17] [1] ⟨44, [(1, .ptr 1 0), (4, .int .i64 x1), (17, .bool (x1 == (2 : Int)))], [(1, .cells 79 [.int .i64 x1, .int .i64 x2, q3aIIS x3])], [], 0⟩ trivial ?_
  refine AWp.cond (b := (x1 == (2 : Int))) (by kernel_rfl) (fun hc4 => ?_) (fun hc4 => ?_)
  ·
   replace h := ite_tb hc4 h
   refine AWp.seq ?_
   refine AWp.seq ?_
   have ob0 := idA (((decide (x2 < (0 : Int))) == false) = true)
   have ob1 := ob0
   have ob2 := bqA (decide (x2 < (0 : Int))) false
   have ob3 := idA ((((decide (x2 < (0 : Int))) || (decide (x2 ≥ (6 : Int)))) == false) = true)
   have ob4 := ob3
   have ob5 := ob3
   have ob6 := bqA ((decide (x2 < (0 : Int))) || (decide (x2 ≥ (6 : Int)))) false
   refine q3rr [] [] [32] [] ⟨44, [(32, .bool (((decide (x2 < (0 : Int))) || (decide (x2 ≥ (6 : Int)))) || (decide ((((x3).length : Nat) : Int) > (0 : Int)))))], [], [], 0⟩ (ac6 (an1 ob0) (an1 ob1) ob2 (an1 ob3) (an1 ob4) (an1 ob5) (an1 ob6)) ?_
   refine tN ?_
   refine AWp.cond (b := (((decide (x2 < (0 : Int))) || (decide (x2 ≥ (6 : Int)))) || (decide ((((x3).length : Nat) : Int) > (0 : Int))))) (by kernel_rfl) (fun hc5 => ?_) (fun hc5 => ?_)
   ·
    replace h := ite_tb hc5 h
    refine q3rq [] [] [2] [] ⟨44, [(2, .int .i64 (1 : Int))], [], [], 0⟩ trivial ?_
    have hret := Option.some.inj h
    subst hret
    refine AWp.le (Le.mk (s' := ⟨44, [(2, .int .i64 (1 : Int))], [], [], 0⟩) rfl rfl ⟨.refl _, trivial⟩ trivial) ?_
    refine AWp.ret ?_
    refine tR ?_
    refine kR ?_
    refine tR ?_
    exact bR _ rfl ⟨rfl, rfl⟩ rfl
   ·
    replace h := ite_fb hc5 h
    refine AWp.skip ?_
    refine tN ?_
    refine q3rq [] [] [2] [] ⟨44, [(2, .int .i64 (0 : Int))], [], [], 0⟩ trivial ?_
    have hret := Option.some.inj h
    subst hret
    refine AWp.le (Le.mk (s' := ⟨44, [(2, .int .i64 (0 : Int))], [], [], 0⟩) rfl rfl ⟨.refl _, trivial⟩ trivial) ?_
    refine AWp.ret ?_
    refine kR ?_
    refine tR ?_
    exact bR _ rfl ⟨rfl, rfl⟩ rfl
  ·
   replace h := ite_fb hc4 h
   refine q3rq [] [] [1, 33] [1] ⟨44, [(1, .ptr 1 0), (33, .bool (x1 == (3 : Int)))], [(1, .cells 79 [.int .i64 x1, .int .i64 x2, q3aIIS x3])], [], 0⟩ trivial ?_
   refine AWp.cond (b := (x1 == (3 : Int))) (by kernel_rfl) (fun hc6 => ?_) (fun hc6 => ?_)
   ·
    replace h := ite_tb hc6 h
    refine AWp.seq ?_
    refine AWp.seq ?_
    have ob7 := idA (((x2 != (0 : Int)) == false) = true)
    have ob8 := ob7
    have ob9 := ob7
    have ob10 := bqA (x2 != (0 : Int)) false
    refine q3rr [] [] [43] [] ⟨44, [(43, .bool ((x2 != (0 : Int)) || (decide ((((x3).length : Nat) : Int) > (0 : Int)))))], [], [], 0⟩ (an4 (an1 ob7) (an1 ob8) (an1 ob9) ob10) ?_
    refine tN ?_
    refine AWp.cond (b := ((x2 != (0 : Int)) || (decide ((((x3).length : Nat) : Int) > (0 : Int))))) (by kernel_rfl) (fun hc7 => ?_) (fun hc7 => ?_)
    ·
     replace h := ite_tb hc7 h
     refine q3rq [] [] [2] [] ⟨44, [(2, .int .i64 (1 : Int))], [], [], 0⟩ trivial ?_
     have hret := Option.some.inj h
     subst hret
     refine AWp.le (Le.mk (s' := ⟨44, [(2, .int .i64 (1 : Int))], [], [], 0⟩) rfl rfl ⟨.refl _, trivial⟩ trivial) ?_
     refine AWp.ret ?_
     refine tR ?_
     refine kR ?_
     refine tR ?_
     exact bR _ rfl ⟨rfl, rfl⟩ rfl
    ·
     replace h := ite_fb hc7 h
     refine AWp.skip ?_
     refine tN ?_
     refine q3rq [] [] [2] [] ⟨44, [(2, .int .i64 (0 : Int))], [], [], 0⟩ trivial ?_
     have hret := Option.some.inj h
     subst hret
     refine AWp.le (Le.mk (s' := ⟨44, [(2, .int .i64 (0 : Int))], [], [], 0⟩) rfl rfl ⟨.refl _, trivial⟩ trivial) ?_
     refine AWp.ret ?_
     refine kR ?_
     refine tR ?_
     exact bR _ rfl ⟨rfl, rfl⟩ rfl
   ·
    replace h := ite_fb hc6 h
    refine AWp.skip ?_
    refine kN ?_
    refine tN ?_
    refine q3rq [] [] [2] [] ⟨44, [(2, .int .i64 (1 : Int))], [], [], 0⟩ trivial ?_
    have hret := Option.some.inj h
    subst hret
    refine AWp.le (Le.mk (s' := ⟨44, [(2, .int .i64 (1 : Int))], [], [], 0⟩) rfl rfl ⟨.refl _, trivial⟩ trivial) ?_
    refine AWp.ret ?_
    exact bR _ rfl ⟨rfl, rfl⟩ rfl
def f105_L0 (x3 : List Tq1) (K1 : (List (List UInt8)) → Option (List UInt8)) : Nat → (Nat × List (List UInt8)) → Option (List UInt8)
 | 0, _ => none
 | k + 1, (n7, l8) =>
  if (decide ((n7 : Int) < (((x3).length : Nat) : Int))) then (
  chk ((n7 : Int) < (((x3).length : Nat) : Int)) <|
  (f56 ((x3.getD n7 (default : Tq1)).1)).bind fun (r9 : List UInt8) =>
  (f56 ((x3.getD n7 (default : Tq1)).2.1)).bind fun (r10 : List UInt8) =>
  chk (((l8).length + 3) * 16 ≤ 140737488355328) <|
  chk (((n7 : Int) + (1 : Int)) ≤ 9223372036854775807) <|
  (f105_L0 x3 K1 k) ((n7 + 1), (l8 ++ [r9, r10, (x3.getD n7 (default : Tq1)).2.2]))
  ) else (
  K1 l8
  )
def f105 (x1 : Int) (x2 : Int) (x3 : List Tq1) : Option (List UInt8) :=
 if (x1 == (2 : Int)) then (
 (f56 x2).bind fun (r4 : List UInt8) =>
 (f58 ([([106, 111, 105, 110] : List UInt8), r4])).bind fun (r5 : List UInt8) =>
 some r5
 ) else (
 if (x1 == (3 : Int)) then (
 (f58 [cs11]).bind fun (r6 : List UInt8) =>
 some r6
 ) else (
 jn (fun (l11 : List (List UInt8)) =>
 (f58 l11).bind fun (r12 : List UInt8) =>
 some r12
 ) fun (K1 : (List (List UInt8)) → Option (List UInt8)) =>
 f105_L0 x3 K1 FUEL (0, [cs12])
 )
 )
theorem f105_ok  (x1 : Int) (x2 : Int) (x3 : List Tq1) (r : List UInt8) (h : f105 x1 x2 x3 = some r)  : Spec1 Tryz.prog 105 [(1, .tab .u64 Lib.pow10Tab)] [] [] [.agg [.int .i64 x1, .int .i64 x2, vL 3 eIIS (default : Tq1) x3]] (.str r) [] := by
 unfold f105 at h
 refine Spec1.body 0 _ _ Tryz.func105 rfl Tryz.ntmps105 rfl rfl ?_
 refine q3rq [] [] [1, 1000001] [1] ⟨41, [(1, .ptr 1 0), (1000001, .tab .u64 Lib.pow10Tab)], [(1, .cells 79 [.int .i64 x1, .int .i64 x2, q3aIIS x3])], [], 0⟩ trivial ?_
 refine AWp.seq ?_
 refine q3rq [] [] [1, 7, 1000001] [1] ⟨41, [(1, .ptr 1 0), (7, .int .i64 x1), (1000001, .tab .u64 Lib.pow10Tab)], [(1, .cells 79 [.int .i64 x1, .int .i64 x2, q3aIIS x3])], [], 0⟩ trivial ?_
 refine AWp.block ?_
 refine q3rq [] [] [1, 7, 8, 1000001] [1] ⟨41, [(1, .ptr 1 0), (7, .int .i64 x1), (8, .bool (x1 == (2 : Int))), (1000001, .tab .u64 Lib.pow10Tab)], [(1, .cells 79 [.int .i64 x1, .int .i64 x2, q3aIIS x3])], [], 0⟩ trivial ?_
 refine AWp.cond (b := (x1 == (2 : Int))) (by kernel_rfl) (fun hc1 => ?_) (fun hc1 => ?_)
 ·
  replace h := ite_tb hc1 h
  refine AWp.seq ?_
  obtain ⟨r4, hr4, h⟩ := bind_ok h
  obtain ⟨r5, hr5, h⟩ := bind_ok h
  refine q3rr [] [(2, ⟨[.int .i64 x2], [], [], [], .str r4, [], [], [1]⟩), (4, ⟨[q3aS [([106, 111, 105, 110] : List UInt8), r4]], [], [], [], .str r5, [], [13], []⟩)] [2, 1000001] [] ⟨41, [(2, .str r5), (1000001, .tab .u64 Lib.pow10Tab)], [], [], 0⟩ (an2 (cpT (f56_ok _ _ hr4)) (cpL (c := true) [(13, .rows 9 1 2 (lstF 1 [.str ([106, 111, 105, 110] : List UInt8), .str r4]))] [13] [.own 13] (fun _ => (f58_ok _ _ hr5)) (fun _ => ⟨(VLe.of (RL.lst (enc := eS) [([106, 111, 105, 110] : List UInt8), r4] rfl rfl (fun _ => rfl))), trivial⟩) (.inr ⟨rfl, trivial⟩))) ?_
  refine tN ?_
  have hret := Option.some.inj h
  subst hret
  refine AWp.le (Le.mk (s' := ⟨41, [(2, .str r5)], [], [], 0⟩) rfl rfl ⟨.refl _, trivial⟩ trivial) ?_
  refine AWp.ret ?_
  refine kR ?_
  refine tR ?_
  exact bR _ rfl ⟨rfl, rfl⟩ rfl
 ·
  replace h := ite_fb hc1 h
  refine q3rq [] [] [1, 15, 1000001] [1] ⟨41, [(1, .ptr 1 0), (15, .bool (x1 == (3 : Int))), (1000001, .tab .u64 Lib.pow10Tab)], [(1, .cells 79 [.int .i64 x1, .int .i64 x2, q3aIIS x3])], [], 0⟩ trivial ?_
  refine AWp.cond (b := (x1 == (3 : Int))) (by kernel_rfl) (fun hc2 => ?_) (fun hc2 => ?_)
  ·
   replace h := ite_tb hc2 h
   refine AWp.seq ?_
   obtain ⟨r6, hr6, h⟩ := bind_ok h
   refine q3rr [] [(1, ⟨[q3aS [cs11]], [], [], [], .str r6, [], [17], []⟩)] [2, 1000001] [] ⟨41, [(2, .str r6), (1000001, .tab .u64 Lib.pow10Tab)], [], [], 0⟩ (an1 (cpL (c := true) [(17, .rows 9 1 1 (lstF 1 [.str cs11]))] [17] [.own 17] (fun _ => (f58_ok _ _ hr6)) (fun _ => ⟨(VLe.of (RL.lst (enc := eS) [cs11] rfl rfl (fun _ => rfl))), trivial⟩) (.inr ⟨rfl, trivial⟩))) ?_
   refine tN ?_
   have hret := Option.some.inj h
   subst hret
   refine AWp.le (Le.mk (s' := ⟨41, [(2, .str r6)], [], [], 0⟩) rfl rfl ⟨.refl _, trivial⟩ trivial) ?_
   refine AWp.ret ?_
   refine kR ?_
   refine tR ?_
   exact bR _ rfl ⟨rfl, rfl⟩ rfl
  ·
   replace h := ite_fb hc2 h
   refine AWp.skip ?_
   refine kN ?_
   refine tN ?_
   refine q3rq [] [] [1, 3, 1000001] [1, 19] ⟨41, [(1, .ptr 1 0), (3, .own 19), (1000001, .tab .u64 Lib.pow10Tab)], [(1, .cells 79 [.int .i64 x1, .int .i64 x2, q3aIIS x3]), (19, .rows 9 1 1 (lstF 1 [.str cs12]))], [], 0⟩ trivial ?_
   refine AWp.le (Le.mk (s' := ⟨41, [(1, .ptr 1 0), (3, .own 19), (1000001, .tab .u64 Lib.pow10Tab)], [(1, .cells 79 [.int .i64 x1, .int .i64 x2, q3aIIS x3]), (19, q3bS_9 [cs12])], [], 0⟩) rfl rfl ⟨.refl _, .refl _, .refl _, trivial⟩ ⟨⟨_, rfl, .refl _⟩, ⟨_, rfl, (BLe.of (RL.lst (enc := eS) [cs12] rfl rfl (fun _ => rfl)))⟩, trivial⟩) ?_
   obtain ⟨K1, hK1, h⟩ := jn_some h
   refine AWp.join (α := List (List UInt8)) (fun (l11 : List (List UInt8)) => ⟨41, [(3, .own 19), (1000001, .tab .u64 Lib.pow10Tab)], [(19, q3bS_9 l11)], [], 0⟩) (fun x => K1 x = some r) ?_ ?_
   ·
    refine q3rq [] [] [3, 21, 22, 23, 1000001] [19] ⟨41, [(3, .own 19), (21, q3aIIS x3), (22, .int .i64 (((x3).length : Nat) : Int)), (23, .int .i64 (0 : Int)), (1000001, .tab .u64 Lib.pow10Tab)], [(19, q3bS_9 [cs12])], [], 0⟩ trivial ?_
    refine AWp.block ?_
    refine AWp.loopL (α := Nat × (Nat × List (List UInt8))) (fun x => match x with | (_, n7, l8) => ⟨41, [(3, .own 19), (21, q3aIIS x3), (22, .int .i64 (((x3).length : Nat) : Int)), (23, .int .i64 (n7 : Int)), (1000001, .tab .u64 Lib.pow10Tab)], [(19, q3bS_9 l8)], [], 0⟩) (fun x => f105_L0 x3 K1 x.1 x.2 = some r) (fun x => x.1) (FUEL, 0, [cs12]) (Le.mk (s' := ⟨41, [(3, .own 19), (21, q3aIIS x3), (22, .int .i64 (((x3).length : Nat) : Int)), (23, .int .i64 (0 : Int)), (1000001, .tab .u64 Lib.pow10Tab)], [(19, q3bS_9 [cs12])], [], 0⟩) rfl rfl ⟨.refl _, .refl _, .refl _, .refl _, .refl _, trivial⟩ ⟨⟨_, rfl, .refl _⟩, trivial⟩) h ?_
    rintro ⟨k0, n7, l8⟩ h
    cases k0 with
    | zero => exact nomatch (show (none : Option (List UInt8)) = some r from h)
    | succ k0 =>
    obtain ⟨C0, hC0⟩ : ∃ C, C = f105_L0 x3 K1 k0 := ⟨_, rfl⟩
    replace h := (f105_L0.eq_2 ..).symm.trans h
    try rw [← hC0] at h
    refine q3rq [] [] [3, 21, 22, 23, 24, 1000001] [19] ⟨41, [(3, .own 19), (21, q3aIIS x3), (22, .int .i64 (((x3).length : Nat) : Int)), (23, .int .i64 (n7 : Int)), (24, .bool (decide ((n7 : Int) < (((x3).length : Nat) : Int)))), (1000001, .tab .u64 Lib.pow10Tab)], [(19, q3bS_9 l8)], [], 0⟩ trivial ?_
    refine AWp.seq ?_
    refine AWp.cond (b := (decide ((n7 : Int) < (((x3).length : Nat) : Int)))) (by kernel_rfl) (fun hc3 => ?_) (fun hc3 => ?_)
    ·
     replace h := ite_tb hc3 h
     refine AWp.skip ?_
     refine tN ?_
     refine AWp.seq ?_
     refine AWp.block ?_
     refine AWp.seq ?_
     obtain ⟨ob0p, h⟩ := chk_some h
     have ob0 : 0 ≤ (n7 : Int) ∧ (n7 : Int) < (((x3).length : Nat) : Int) := ⟨by omega, ob0p⟩
     refine q3rr [] [] [3, 5, 21, 22, 23, 1000001] [5, 19] ⟨41, [(3, .own 19), (5, .ptr 5 0), (21, q3aIIS x3), (22, .int .i64 (((x3).length : Nat) : Int)), (23, .int .i64 (n7 : Int)), (1000001, .tab .u64 Lib.pow10Tab)], [(5, .cells 24 [.int .i64 (x3.getD n7 q3dIIS).1, .int .i64 (x3.getD n7 q3dIIS).2.1, .str (x3.getD n7 q3dIIS).2.2]), (19, q3bS_9 l8)], [], 0⟩ (an2 ob0 trivial) ?_
     refine tN ?_
     obtain ⟨r9, hr9, h⟩ := bind_ok h
     obtain ⟨r10, hr10, h⟩ := bind_ok h
     obtain ⟨ob1, h⟩ := chk_some h
     refine q3rr [] [(3, ⟨[.int .i64 (x3.getD n7 q3dIIS).1], [], [], [], .str r9, [], [], [1]⟩), (6, ⟨[.int .i64 (x3.getD n7 q3dIIS).2.1], [], [], [], .str r10, [], [], [1]⟩)] [3, 21, 22, 23, 1000001] [19] ⟨41, [(3, .own 19), (21, q3aIIS x3), (22, .int .i64 (((x3).length : Nat) : Int)), (23, .int .i64 (n7 : Int)), (1000001, .tab .u64 Lib.pow10Tab)], [(19, .rows 9 1 ((l8).length + 3) (appF (l8).length (encF eS [] l8) (lstF 1 [.str r9, .str r10, .str (x3.getD n7 q3dIIS).2.2])))], [], 0⟩ (an3 (cpT (f56_ok _ _ hr9)) (cpT (f56_ok _ _ hr10)) ob1) ?_
     refine kN ?_
     refine tN ?_
     refine AWp.le (Le.mk (s' := ⟨41, [(3, .own 19), (21, q3aIIS x3), (22, .int .i64 (((x3).length : Nat) : Int)), (23, .int .i64 (n7 : Int)), (1000001, .tab .u64 Lib.pow10Tab)], [(19, q3bS_9 (l8 ++ [r9, r10, (x3.getD n7 q3dIIS).2.2]))], [], 0⟩) rfl rfl ⟨.refl _, .refl _, .refl _, .refl _, .refl _, trivial⟩ ⟨⟨_, rfl, (BLe.of (RL.app (RL.self _) (RL.lst (enc := eS) [r9, r10, (x3.getD n7 q3dIIS).2.2] rfl rfl (fun _ => rfl))))⟩, trivial⟩) ?_
     obtain ⟨ob2p, h⟩ := chk_some h
     have ob2 : -9223372036854775808 ≤ ((n7 : Int) + (1 : Int)) ∧ ((n7 : Int) + (1 : Int)) ≤ 9223372036854775807 := ⟨by omega, ob2p⟩
     refine q3rr [] [] [3, 21, 22, 23, 1000001] [19] ⟨41, [(3, .own 19), (21, q3aIIS x3), (22, .int .i64 (((x3).length : Nat) : Int)), (23, .int .i64 (((n7 + 1) : Nat) : Int)), (1000001, .tab .u64 Lib.pow10Tab)], [(19, q3bS_9 (l8 ++ [r9, r10, (x3.getD n7 q3dIIS).2.2]))], [], 0⟩ (an1 ob2) ?_
     rw [hC0] at h
     exact lN (_, (n7 + 1), (l8 ++ [r9, r10, (x3.getD n7 q3dIIS).2.2])) (Le.mk rfl rfl ⟨.refl _, .refl _, .refl _, .refl _, .refl _, trivial⟩ ⟨⟨_, rfl, .refl _⟩, trivial⟩) h (Nat.lt_succ_self _)
    ·
     replace h := ite_fb hc3 h
     refine AWp.exit ?_
     refine tE ?_
     refine tE ?_
     refine kS ?_
     exact jN (l8) (Le.mk rfl rfl ⟨.refl _, .refl _, trivial⟩ ⟨⟨_, rfl, .refl _⟩, trivial⟩) h
   ·
    rintro l11 h
    replace h := (congrFun hK1 _).symm.trans h
    refine AWp.seq ?_
    obtain ⟨r12, hr12, h⟩ := bind_ok h
    refine q3rr [] [(1, ⟨[q3aS l11], [], [], [], .str r12, [], [19], []⟩)] [2, 1000001] [] ⟨41, [(2, .str r12), (1000001, .tab .u64 Lib.pow10Tab)], [], [], 0⟩ (an1 (cpL (c := true) [(19, q3bS_9 l11)] [19] [.own 19] (fun _ => (f58_ok _ _ hr12)) (fun _ => ⟨.refl _, trivial⟩) (.inr ⟨rfl, trivial⟩))) ?_
    refine tN ?_
    have hret := Option.some.inj h
    subst hret
    refine AWp.le (Le.mk (s' := ⟨41, [(2, .str r12)], [], [], 0⟩) rfl rfl ⟨.refl _, trivial⟩ trivial) ?_
    refine AWp.ret ?_
    exact bR _ rfl ⟨rfl, rfl⟩ rfl
def f59_L0 (K1 : (Nat × Int × (List Tq1)) → Option (Int × Int × (List Tq1) × Int)) : Nat → (List (List UInt8) × (List Tq1)) → Option (Int × Int × (List Tq1) × Int)
 | 0, _ => none
 | k + 1, (l7, l8) =>
  if (decide ((((l7).length : Nat) : Int) ≥ (3 : Int))) then (
  (f103 (l7.getD 0 [])).bind fun (r9 : Int × Bool) =>
  chk ((0 : Int) < (((l7).length : Nat) : Int)) <|
  (f103 (l7.getD 1 [])).bind fun (r10 : Int × Bool) =>
  chk ((1 : Int) < (((l7).length : Nat) : Int)) <|
  chk ((2 : Int) < (((l7).length : Nat) : Int)) <|
  chk (((l8).length + 1) * 32 ≤ 140737488355328) <|
  chk ((3 : Int) ≤ (((l7).length : Nat) : Int)) <|
  (f59_L0 K1 k) ((l7.drop 3), (l8 ++ [(r9.1, r10.1, (l7.getD 2 []))]))
  ) else (
  K1 (1, (0 : Int), l8)
  )
def f59 (x1 : List UInt8) : Option (Int × Int × (List Tq1) × Int) :=
 (f84 x1).bind fun (r2 : Int × Int × List (List UInt8)) =>
 if ((r2.2.1 != (0 : Int)) || ((((r2.2.2).length : Nat) : Int) == (0 : Int))) then (
 some ((0 : Int), (0 : Int), [], (2 : Int))
 ) else (
 chk ((1 : Int) ≤ (((r2.2.2).length : Nat) : Int)) <|
 jn (fun ((n4, i5, l6) : Nat × Int × (List Tq1)) =>
 (f104 (n4 : Int) i5 l6).bind fun (r11 : Int) =>
 optc ((r11 != (0 : Int)) == false) (f105 (n4 : Int) i5 l6) fun (r12 : List UInt8) =>
 if ((r11 != (0 : Int)) || (!(r12 == x1))) then (
 some ((0 : Int), (0 : Int), [], (2 : Int))
 ) else (
 some ((n4 : Int), i5, l6, (0 : Int))
 )
 ) fun (K1 : (Nat × Int × (List Tq1)) → Option (Int × Int × (List Tq1) × Int)) =>
 chk ((0 : Int) < (((r2.2.2).length : Nat) : Int)) <|
 if (((r2.2.2.getD 0 []) == ([106, 111, 105, 110] : List UInt8)) && (((((r2.2.2.drop 1)).length : Nat) : Int) == (1 : Int))) then (
 (f103 ((r2.2.2.drop 1).getD 0 [])).bind fun (r3 : Int × Bool) =>
 chk ((0 : Int) < ((((r2.2.2.drop 1)).length : Nat) : Int)) <|
 K1 (2, r3.1, [])
 ) else (
 chk ((0 : Int) < (((r2.2.2).length : Nat) : Int)) <|
 if ((r2.2.2.getD 0 []) == cs11) then (
 K1 (3, (0 : Int), [])
 ) else (
 f59_L0 K1 FUEL ((r2.2.2.drop 1), [])
 )
 )
 )
theorem f59_ok  (x1 : List UInt8) (r : Int × Int × (List Tq1) × Int) (h : f59 x1 = some r)  : Spec1 Tryz.prog 59 [(1, .tab .u64 Lib.pow10Tab), (2, errG), (3, errG)] [] [] [.str x1] (.tup [.agg [.int .i64 r.1, .int .i64 r.2.1, vL 3 eIIS (default : Tq1) r.2.2.1], .int .i64 r.2.2.2]) [] := by
 unfold f59 at h
 refine Spec1.bodyD [2] 0 _ _ Tryz.func59 rfl Tryz.ntmps59 rfl rfl ?_
 refine q3rq [] [] [0, 2, 1000001, 1000002, 1000003] [2] ⟨96, [(0, .str x1), (2, .ptr 2 0), (1000001, .tab .u64 Lib.pow10Tab), (1000002, errG), (1000003, errG)], [(2, .cells 79 [.int .i64 (0 : Int), .int .i64 (0 : Int), .nils])], [], 0⟩ trivial ?_
 refine AWp.seq ?_
 obtain ⟨r2, hr2, h⟩ := bind_ok h
 refine q3rr [] [(1, ⟨[.str x1], [], [], [(6001, q3bS_9 r2.2.2)], .tup [.own 6001, .int .i64 r2.1, .int .i64 r2.2.1], [6001], [], []⟩)] [0, 2, 4, 6, 1000001, 1000002, 1000003] [2, 6001] ⟨96, [(0, .str x1), (2, .ptr 2 0), (4, .own 6001), (6, .int .i64 r2.2.1), (1000001, .tab .u64 Lib.pow10Tab), (1000002, errG), (1000003, errG)], [(2, .cells 79 [.int .i64 (0 : Int), .int .i64 (0 : Int), .nils]), (6001, q3bS_9 r2.2.2)], [], 0⟩ (an1 (cpT (Spec1.ren (swapN 3000 6001) (swapN_inv 3000 6001) rfl (f84_ok _ _ hr2)))) ?_
 refine tN ?_
 refine AWp.seq ?_
 refine AWp.seq ?_
 have ob0 := idA (((r2.2.1 != (0 : Int)) == false) = true)
 have ob1 := ob0
 have ob2 := bqA (r2.2.1 != (0 : Int)) false
 refine q3rr [] [] [0, 2, 4, 25, 1000001, 1000002, 1000003] [2, 6001] ⟨96, [(0, .str x1), (2, .ptr 2 0), (4, .own 6001), (25, .bool ((r2.2.1 != (0 : Int)) || ((((r2.2.2).length : Nat) : Int) == (0 : Int)))), (1000001, .tab .u64 Lib.pow10Tab), (1000002, errG), (1000003, errG)], [(2, .cells 79 [.int .i64 (0 : Int), .int .i64 (0 : Int), .nils]), (6001, q3bS_9 r2.2.2)], [], 0⟩ (an3 (an1 ob0) (an1 ob1) ob2) ?_
 refine tN ?_
 refine AWp.cond (b := ((r2.2.1 != (0 : Int)) || ((((r2.2.2).length : Nat) : Int) == (0 : Int)))) (by kernel_rfl) (fun hc1 => ?_) (fun hc1 => ?_)
 ·
  replace h := ite_tb hc1 h
  refine q3rq [] [] [2, 3, 1000001, 1000002, 1000003] [2] ⟨96, [(2, .ptr 2 0), (3, .int .i64 (2 : Int)), (1000001, .tab .u64 Lib.pow10Tab), (1000002, errG), (1000003, errG)], [(2, .cells 79 [.int .i64 (0 : Int), .int .i64 (0 : Int), .nils])], [], 0⟩ (an1 trivial) ?_
  have hret := Option.some.inj h
  subst hret
  refine AWp.le (Le.mk (s' := ⟨96, [(2, .ptr 2 0), (3, .int .i64 (2 : Int))], [(2, .cells 79 [.int .i64 (0 : Int), .int .i64 (0 : Int), q3aIIS []])], [], 0⟩) rfl rfl ⟨.refl _, .refl _, trivial⟩ ⟨⟨_, rfl, (.cellsL ⟨.refl _, .refl _, .nilL, trivial⟩)⟩, trivial⟩) ?_
  refine AWp.ret ?_
  refine tR ?_
  exact bR _ rfl ⟨rfl, rfl⟩ rfl
 ·
  replace h := ite_fb hc1 h
  refine AWp.skip ?_
  refine tN ?_
  refine q3rq [] [] [0, 2, 4, 7, 1000001, 1000002, 1000003] [2, 7, 6001] ⟨96, [(0, .str x1), (2, .ptr 2 0), (4, .own 6001), (7, .ptr 7 0), (1000001, .tab .u64 Lib.pow10Tab), (1000002, errG), (1000003, errG)], [(2, .cells 79 [.int .i64 (0 : Int), .int .i64 (0 : Int), .nils]), (7, .cells 79 [.int .i64 (1 : Int), .int .i64 (0 : Int), .nils]), (6001, q3bS_9 r2.2.2)], [], 0⟩ (an1 trivial) ?_
  refine AWp.seq ?_
  refine AWp.le (Le.trans (Le.freeze 6001 rfl rfl) (Le.mk (s' := ⟨96, [(0, .str x1), (2, .ptr 2 0), (4, q3aS r2.2.2), (7, .ptr 7 0), (1000001, .tab .u64 Lib.pow10Tab), (1000002, errG), (1000003, errG)], [(2, .cells 79 [.int .i64 (0 : Int), .int .i64 (0 : Int), .nils]), (7, .cells 79 [.int .i64 (1 : Int), .int .i64 (0 : Int), .nils])], [], 0⟩) rfl rfl ⟨.refl _, .refl _, .refl _, .refl _, .refl _, .refl _, .refl _, trivial⟩ ⟨⟨_, rfl, .refl _⟩, ⟨_, rfl, .refl _⟩, trivial⟩)) ?_
  obtain ⟨ob3p, h⟩ := chk_some h
  have ob3 : 0 ≤ (1 : Int) ∧ (1 : Int) ≤ (((r2.2.2).length : Nat) : Int) := ⟨by omega, ob3p⟩
  refine q3rr [] [] [0, 2, 4, 7, 8, 1000001, 1000002, 1000003] [2, 7] ⟨96, [(0, .str x1), (2, .ptr 2 0), (4, q3aS r2.2.2), (7, .ptr 7 0), (8, .arr 1 ((r2.2.2).length - 1) (fun i j => (encF eS [] r2.2.2) (i + 1) j)), (1000001, .tab .u64 Lib.pow10Tab), (1000002, errG), (1000003, errG)], [(2, .cells 79 [.int .i64 (0 : Int), .int .i64 (0 : Int), .nils]), (7, .cells 79 [.int .i64 (1 : Int), .int .i64 (0 : Int), .nils])], [], 0⟩ (an1 ob3) ?_
  refine tN ?_
  refine AWp.le (Le.mk (s' := ⟨96, [(0, .str x1), (2, .ptr 2 0), (4, q3aS r2.2.2), (7, .ptr 7 0), (8, q3aS (r2.2.2.drop 1)), (1000001, .tab .u64 Lib.pow10Tab), (1000002, errG), (1000003, errG)], [(2, .cells 79 [.int .i64 (0 : Int), .int .i64 (0 : Int), .nils]), (7, .cells 79 [.int .i64 (1 : Int), .int .i64 (0 : Int), .nils])], [], 0⟩) rfl rfl ⟨.refl _, .refl _, .refl _, .refl _, VLe.dropL, .refl _, .refl _, .refl _, trivial⟩ ⟨⟨_, rfl, .refl _⟩, ⟨_, rfl, .refl _⟩, trivial⟩) ?_
  obtain ⟨K1, hK1, h⟩ := jn_some h
  refine AWp.join (α := Nat × Int × (List Tq1)) (fun (x : Nat × Int × (List Tq1)) => match x with | (n4, i5, l6) => ⟨96, [(0, .str x1), (2, .ptr 2 0), (7, .ptr 7 0), (1000001, .tab .u64 Lib.pow10Tab), (1000002, errG), (1000003, errG)], [(2, .cells 79 [.int .i64 (0 : Int), .int .i64 (0 : Int), .nils]), (7, .cells 79 [.int .i64 (n4 : Int), .int .i64 i5, .own 6202]), (6202, q3bIIS_24 l6)], [], 0⟩) (fun x => K1 x = some r) ?_ ?_
  ·
   refine AWp.block ?_
   refine AWp.seq ?_
   obtain ⟨ob4p, h⟩ := chk_some h
   have ob4 : 0 ≤ (0 : Int) ∧ (0 : Int) < (((r2.2.2).length : Nat) : Int) := ⟨by omega, ob4p⟩
   have ob5 := idA ((((r2.2.2.getD 0 []) == ([106, 111, 105, 110] : List UInt8)) == true) = true)
   have ob6 := ob5
   have ob7 := bqA ((r2.2.2.getD 0 []) == ([106, 111, 105, 110] : List UInt8)) true
   refine q3rr [] [] [0, 2, 4, 7, 8, 60, 1000001, 1000002, 1000003] [2, 7] ⟨96, [(0, .str x1), (2, .ptr 2 0), (4, q3aS r2.2.2), (7, .ptr 7 0), (8, q3aS (r2.2.2.drop 1)), (60, .bool (((r2.2.2.getD 0 []) == ([106, 111, 105, 110] : List UInt8)) && (((((r2.2.2.drop 1)).length : Nat) : Int) == (1 : Int)))), (1000001, .tab .u64 Lib.pow10Tab), (1000002, errG), (1000003, errG)], [(2, .cells 79 [.int .i64 (0 : Int), .int .i64 (0 : Int), .nils]), (7, .cells 79 [.int .i64 (1 : Int), .int .i64 (0 : Int), .nils])], [], 0⟩ (an4 ob4 (an1 ob5) (an1 ob6) ob7) ?_
   refine tN ?_
   refine AWp.cond (b := (((r2.2.2.getD 0 []) == ([106, 111, 105, 110] : List UInt8)) && (((((r2.2.2.drop 1)).length : Nat) : Int) == (1 : Int)))) (by kernel_rfl) (fun hc2 => ?_) (fun hc2 => ?_)
   ·
    replace h := ite_tb hc2 h
    refine q3rq [] [] [0, 2, 7, 8, 1000001, 1000002, 1000003] [2, 7] ⟨96, [(0, .str x1), (2, .ptr 2 0), (7, .ptr 7 0), (8, q3aS (r2.2.2.drop 1)), (1000001, .tab .u64 Lib.pow10Tab), (1000002, errG), (1000003, errG)], [(2, .cells 79 [.int .i64 (0 : Int), .int .i64 (0 : Int), .nils]), (7, .cells 79 [.int .i64 (2 : Int), .int .i64 (0 : Int), .nils])], [], 0⟩ (an1 trivial) ?_
    obtain ⟨r3, hr3, h⟩ := bind_ok h
    obtain ⟨ob8p, h⟩ := chk_some h
    have ob8 : 0 ≤ (0 : Int) ∧ (0 : Int) < ((((r2.2.2.drop 1)).length : Nat) : Int) := ⟨by omega, ob8p⟩
    refine q3rr [] [(3, ⟨[.str ((r2.2.2.drop 1).getD 0 [])], [], [], [], .tup [.int .i64 r3.1, .ifc r3.2], [], [], [2, 3]⟩)] [0, 2, 7, 1000001, 1000002, 1000003] [2, 7] ⟨96, [(0, .str x1), (2, .ptr 2 0), (7, .ptr 7 0), (1000001, .tab .u64 Lib.pow10Tab), (1000002, errG), (1000003, errG)], [(2, .cells 79 [.int .i64 (0 : Int), .int .i64 (0 : Int), .nils]), (7, .cells 79 [.int .i64 (2 : Int), .int .i64 r3.1, .nils])], [], 0⟩ (an3 ob8 (cpT (f103_ok _ _ hr3)) trivial) ?_
    refine kN ?_
    exact jN (2, r3.1, []) (Le.trans (Le.trans (Le.nilOwnC 7 2 6202 24 3 (encF eIIS q3dIIS []) rfl rfl rfl) (Le.mk (s' := ⟨96, [(0, .str x1), (2, .ptr 2 0), (7, .ptr 7 0), (1000001, .tab .u64 Lib.pow10Tab), (1000002, errG), (1000003, errG)], [(2, .cells 79 [.int .i64 (0 : Int), .int .i64 (0 : Int), .nils]), (7, .cells 79 [.int .i64 (2 : Int), .int .i64 r3.1, .own 6202]), (6202, q3bIIS_24 [])], [], 0⟩) rfl rfl ⟨.refl _, .refl _, .refl _, .refl _, .refl _, .refl _, trivial⟩ ⟨⟨_, rfl, .refl _⟩, ⟨_, rfl, .refl _⟩, ⟨_, rfl, .refl _⟩, trivial⟩)) (Le.mk rfl rfl ⟨.refl _, .refl _, .refl _, .refl _, .refl _, .refl _, trivial⟩ ⟨⟨_, rfl, .refl _⟩, ⟨_, rfl, .refl _⟩, ⟨_, rfl, .refl _⟩, trivial⟩)) h
   ·
    replace h := ite_fb hc2 h
    refine AWp.seq ?_
    obtain ⟨ob9p, h⟩ := chk_some h
    have ob9 : 0 ≤ (0 : Int) ∧ (0 : Int) < (((r2.2.2).length : Nat) : Int) := ⟨by omega, ob9p⟩
    refine q3rr [] [] [0, 2, 7, 8, 79, 1000001, 1000002, 1000003] [2, 7] ⟨96, [(0, .str x1), (2, .ptr 2 0), (7, .ptr 7 0), (8, q3aS (r2.2.2.drop 1)), (79, .bool ((r2.2.2.getD 0 []) == cs11)), (1000001, .tab .u64 Lib.pow10Tab), (1000002, errG), (1000003, errG)], [(2, .cells 79 [.int .i64 (0 : Int), .int .i64 (0 : Int), .nils]), (7, .cells 79 [.int .i64 (1 : Int), .int .i64 (0 : Int), .nils])], [], 0⟩ (an1 ob9) ?_
    refine tN ?_
    refine AWp.cond (b := ((r2.2.2.getD 0 []) == cs11)) (by kernel_rfl) (fun hc3 => ?_) (fun hc3 => ?_)
    ·
     replace h := ite_tb hc3 h
     refine q3rr [] [] [0, 2, 7, 1000001, 1000002, 1000003] [2, 7] ⟨96, [(0, .str x1), (2, .ptr 2 0), (7, .ptr 7 0), (1000001, .tab .u64 Lib.pow10Tab), (1000002, errG), (1000003, errG)], [(2, .cells 79 [.int .i64 (0 : Int), .int .i64 (0 : Int), .nils]), (7, .cells 79 [.int .i64 (3 : Int), .int .i64 (0 : Int), .nils])], [], 0⟩ (an1 trivial) ?_
     refine kN ?_
     exact jN (3, (0 : Int), []) (Le.trans (Le.trans (Le.nilOwnC 7 2 6202 24 3 (encF eIIS q3dIIS []) rfl rfl rfl) (Le.mk (s' := ⟨96, [(0, .str x1), (2, .ptr 2 0), (7, .ptr 7 0), (1000001, .tab .u64 Lib.pow10Tab), (1000002, errG), (1000003, errG)], [(2, .cells 79 [.int .i64 (0 : Int), .int .i64 (0 : Int), .nils]), (7, .cells 79 [.int .i64 (3 : Int), .int .i64 (0 : Int), .own 6202]), (6202, q3bIIS_24 [])], [], 0⟩) rfl rfl ⟨.refl _, .refl _, .refl _, .refl _, .refl _, .refl _, trivial⟩ ⟨⟨_, rfl, .refl _⟩, ⟨_, rfl, .refl _⟩, ⟨_, rfl, .refl _⟩, trivial⟩)) (Le.mk rfl rfl ⟨.refl _, .refl _, .refl _, .refl _, .refl _, .refl _, trivial⟩ ⟨⟨_, rfl, .refl _⟩, ⟨_, rfl, .refl _⟩, ⟨_, rfl, .refl _⟩, trivial⟩)) h
    ·
     replace h := ite_fb hc3 h
     refine AWp.block ?_
     refine AWp.loopL (α := Nat × (List (List UInt8) × (List Tq1))) (fun x => match x with | (_, l7, l8) => ⟨96, [(0, .str x1), (2, .ptr 2 0), (7, .ptr 7 0), (8, q3aS l7), (1000001, .tab .u64 Lib.pow10Tab), (1000002, errG), (1000003, errG)], [(2, .cells 79 [.int .i64 (0 : Int), .int .i64 (0 : Int), .nils]), (7, .cells 79 [.int .i64 (1 : Int), .int .i64 (0 : Int), .own 6202]), (6202, q3bIIS_24 l8)], [], 0⟩) (fun x => f59_L0 K1 x.1 x.2 = some r) (fun x => x.1) (FUEL, (r2.2.2.drop 1), []) (Le.trans (Le.trans (Le.nilOwnC 7 2 6202 24 3 (encF eIIS q3dIIS []) rfl rfl rfl) (Le.mk (s' := ⟨96, [(0, .str x1), (2, .ptr 2 0), (7, .ptr 7 0), (8, q3aS (r2.2.2.drop 1)), (79, .bool ((r2.2.2.getD 0 []) == cs11)), (1000001, .tab .u64 Lib.pow10Tab), (1000002, errG), (1000003, errG)], [(2, .cells 79 [.int .i64 (0 : Int), .int .i64 (0 : Int), .nils]), (7, .cells 79 [.int .i64 (1 : Int), .int .i64 (0 : Int), .own 6202]), (6202, q3bIIS_24 [])], [], 0⟩) rfl rfl ⟨.refl _, .refl _, .refl _, .refl _, .refl _, .refl _, .refl _, .refl _, trivial⟩ ⟨⟨_, rfl, .refl _⟩, ⟨_, rfl, .refl _⟩, ⟨_, rfl, .refl _⟩, trivial⟩)) (Le.mk (s' := ⟨96, [(0, .str x1), (2, .ptr 2 0), (7, .ptr 7 0), (8, q3aS (r2.2.2.drop 1)), (1000001, .tab .u64 Lib.pow10Tab), (1000002, errG), (1000003, errG)], [(2, .cells 79 [.int .i64 (0 : Int), .int .i64 (0 : Int), .nils]), (7, .cells 79 [.int .i64 (1 : Int), .int .i64 (0 : Int), .own 6202]), (6202, q3bIIS_24 [])], [], 0⟩) rfl rfl ⟨.refl _, .refl _, .refl _, .refl _, .refl _, .refl _, .refl _, trivial⟩ ⟨⟨_, rfl, .refl _⟩, ⟨_, rfl, .refl _⟩, ⟨_, rfl, .refl _⟩, trivial⟩)) h ?_
     rintro ⟨k0, l7, l8⟩ h
     cases k0 with
     | zero => exact nomatch (show (none : Option (Int × Int × (List Tq1) × Int)) = some r from h)
     | succ k0 =>
     obtain ⟨C0, hC0⟩ : ∃ C, C = f59_L0 K1 k0 := ⟨_, rfl⟩
     replace h := (f59_L0.eq_2 ..).symm.trans h
     try rw [← hC0] at h
     refine AWp.seq ?_
     refine q3rq [] [] [0, 2, 7, 8, 32, 1000001, 1000002, 1000003] [2, 7, 6202] ⟨96, [(0, .str x1), (2, .ptr 2 0), (7, .ptr 7 0), (8, q3aS l7), (32, .bool (decide ((((l7).length : Nat) : Int) ≥ (3 : Int)))), (1000001, .tab .u64 Lib.pow10Tab), (1000002, errG), (1000003, errG)], [(2, .cells 79 [.int .i64 (0 : Int), .int .i64 (0 : Int), .nils]), (7, .cells 79 [.int .i64 (1 : Int), .int .i64 (0 : Int), .own 6202]), (6202, q3bIIS_24 l8)], [], 0⟩ trivial ?_
     refine AWp.cond (b := (decide ((((l7).length : Nat) : Int) ≥ (3 : Int)))) (by kernel_rfl) (fun hc4 => ?_) (fun hc4 => ?_)
     ·
      replace h := ite_tb hc4 h
      refine AWp.skip ?_
      refine tN ?_
      refine AWp.seq ?_
      refine AWp.block ?_
      refine AWp.seq ?_
      obtain ⟨r9, hr9, h⟩ := bind_ok h
      obtain ⟨ob10p, h⟩ := chk_some h
      have ob10 : 0 ≤ (0 : Int) ∧ (0 : Int) < (((l7).length : Nat) : Int) := ⟨by omega, ob10p⟩
      refine q3rr [] [(3, ⟨[.str (l7.getD 0 [])], [], [], [], .tup [.int .i64 r9.1, .ifc r9.2], [], [], [2, 3]⟩)] [0, 2, 7, 8, 9, 1000001, 1000002, 1000003] [2, 7, 6202] ⟨96, [(0, .str x1), (2, .ptr 2 0), (7, .ptr 7 0), (8, q3aS l7), (9, .int .i64 r9.1), (1000001, .tab .u64 Lib.pow10Tab), (1000002, errG), (1000003, errG)], [(2, .cells 79 [.int .i64 (0 : Int), .int .i64 (0 : Int), .nils]), (7, .cells 79 [.int .i64 (1 : Int), .int .i64 (0 : Int), .own 6202]), (6202, q3bIIS_24 l8)], [], 0⟩ (an2 ob10 (cpT (f103_ok _ _ hr9))) ?_
      refine tN ?_
      refine AWp.seq ?_
      obtain ⟨r10, hr10, h⟩ := bind_ok h
      obtain ⟨ob11p, h⟩ := chk_some h
      have ob11 : 0 ≤ (1 : Int) ∧ (1 : Int) < (((l7).length : Nat) : Int) := ⟨by omega, ob11p⟩
      refine q3rr [] [(3, ⟨[.str (l7.getD 1 [])], [], [], [], .tup [.int .i64 r10.1, .ifc r10.2], [], [], [2, 3]⟩)] [0, 2, 7, 8, 9, 11, 1000001, 1000002, 1000003] [2, 7, 6202] ⟨96, [(0, .str x1), (2, .ptr 2 0), (7, .ptr 7 0), (8, q3aS l7), (9, .int .i64 r9.1), (11, .int .i64 r10.1), (1000001, .tab .u64 Lib.pow10Tab), (1000002, errG), (1000003, errG)], [(2, .cells 79 [.int .i64 (0 : Int), .int .i64 (0 : Int), .nils]), (7, .cells 79 [.int .i64 (1 : Int), .int .i64 (0 : Int), .own 6202]), (6202, q3bIIS_24 l8)], [], 0⟩ (an2 ob11 (cpT (f103_ok _ _ hr10))) ?_
      refine tN ?_
      obtain ⟨ob12p, h⟩ := chk_some h
      have ob12 : 0 ≤ (2 : Int) ∧ (2 : Int) < (((l7).length : Nat) : Int) := ⟨by omega, ob12p⟩
      obtain ⟨ob13, h⟩ := chk_some h
      refine q3rr [] [] [0, 2, 7, 8, 1000001, 1000002, 1000003] [2, 7, 6202] ⟨96, [(0, .str x1), (2, .ptr 2 0), (7, .ptr 7 0), (8, q3aS l7), (1000001, .tab .u64 Lib.pow10Tab), (1000002, errG), (1000003, errG)], [(2, .cells 79 [.int .i64 (0 : Int), .int .i64 (0 : Int), .nils]), (7, .cells 79 [.int .i64 (1 : Int), .int .i64 (0 : Int), .own 6202]), (6202, .rows 24 3 ((l8).length + 1) (appF (l8).length (encF eIIS q3dIIS l8) (lstF 3 [.int .i64 r9.1, .int .i64 r10.1, .str (l7.getD 2 [])])))], [], 0⟩ (an3 ob12 ob13 trivial) ?_
      refine kN ?_
      refine tN ?_
      refine AWp.le (Le.mk (s' := ⟨96, [(0, .str x1), (2, .ptr 2 0), (7, .ptr 7 0), (8, q3aS l7), (1000001, .tab .u64 Lib.pow10Tab), (1000002, errG), (1000003, errG)], [(2, .cells 79 [.int .i64 (0 : Int), .int .i64 (0 : Int), .nils]), (7, .cells 79 [.int .i64 (1 : Int), .int .i64 (0 : Int), .own 6202]), (6202, q3bIIS_24 (l8 ++ [(r9.1, r10.1, (l7.getD 2 []))]))], [], 0⟩) rfl rfl ⟨.refl _, .refl _, .refl _, .refl _, .refl _, .refl _, .refl _, trivial⟩ ⟨⟨_, rfl, .refl _⟩, ⟨_, rfl, .refl _⟩, ⟨_, rfl, (BLe.of (RL.app (RL.self _) (RL.lst (enc := eIIS) [(r9.1, r10.1, (l7.getD 2 []))] rfl rfl (fun _ => rfl))))⟩, trivial⟩) ?_
      obtain ⟨ob14p, h⟩ := chk_some h
      have ob14 : 0 ≤ (3 : Int) ∧ (3 : Int) ≤ (((l7).length : Nat) : Int) := ⟨by omega, ob14p⟩
      refine q3rr [] [] [0, 2, 7, 8, 1000001, 1000002, 1000003] [2, 7, 6202] ⟨96, [(0, .str x1), (2, .ptr 2 0), (7, .ptr 7 0), (8, .arr 1 ((l7).length - 3) (fun i j => (encF eS [] l7) (i + 3) j)), (1000001, .tab .u64 Lib.pow10Tab), (1000002, errG), (1000003, errG)], [(2, .cells 79 [.int .i64 (0 : Int), .int .i64 (0 : Int), .nils]), (7, .cells 79 [.int .i64 (1 : Int), .int .i64 (0 : Int), .own 6202]), (6202, q3bIIS_24 (l8 ++ [(r9.1, r10.1, (l7.getD 2 []))]))], [], 0⟩ (an1 ob14) ?_
      rw [hC0] at h
      exact lN (_, (l7.drop 3), (l8 ++ [(r9.1, r10.1, (l7.getD 2 []))])) (Le.trans (Le.mk (s' := ⟨96, [(0, .str x1), (2, .ptr 2 0), (7, .ptr 7 0), (8, q3aS (l7.drop 3)), (1000001, .tab .u64 Lib.pow10Tab), (1000002, errG), (1000003, errG)], [(2, .cells 79 [.int .i64 (0 : Int), .int .i64 (0 : Int), .nils]), (7, .cells 79 [.int .i64 (1 : Int), .int .i64 (0 : Int), .own 6202]), (6202, q3bIIS_24 (l8 ++ [(r9.1, r10.1, (l7.getD 2 []))]))], [], 0⟩) rfl rfl ⟨.refl _, .refl _, .refl _, VLe.dropL, .refl _, .refl _, .refl _, trivial⟩ ⟨⟨_, rfl, .refl _⟩, ⟨_, rfl, .refl _⟩, ⟨_, rfl, .refl _⟩, trivial⟩) (Le.mk rfl rfl ⟨.refl _, .refl _, .refl _, .refl _, .refl _, .refl _, .refl _, trivial⟩ ⟨⟨_, rfl, .refl _⟩, ⟨_, rfl, .refl _⟩, ⟨_, rfl, .refl _⟩, trivial⟩)) h (Nat.lt_succ_self _)
     ·
      replace h := ite_fb hc4 h
      refine AWp.exit ?_
      refine tE ?_
      refine tE ?_
      refine kS ?_
      refine kN ?_
      exact jN (1, (0 : Int), l8) (Le.mk rfl rfl ⟨.refl _, .refl _, .refl _, .refl _, .refl _, .refl _, trivial⟩ ⟨⟨_, rfl, .refl _⟩, ⟨_, rfl, .refl _⟩, ⟨_, rfl, .refl _⟩, trivial⟩) h
  ·
   rintro ⟨n4, i5, l6⟩ h
   replace h := (congrFun hK1 _).symm.trans h
   refine AWp.seq ?_
   refine AWp.seq ?_
   obtain ⟨r11, hr11, h⟩ := bind_ok h
   obtain ⟨r12, hr12, h⟩ := optc_some h
   have ob15 := idA (((r11 != (0 : Int)) == false) = true)
   have ob16 := ob15
   have ob17 := ob15
   have ob18 := bqA (r11 != (0 : Int)) false
   refine q3rr [] [(1, ⟨[.agg [.int .i64 (n4 : Int), .int .i64 i5, q3aIIS l6]], [], [], [], .int .i64 r11, [], [6202], []⟩), (5, ⟨[.agg [.int .i64 (n4 : Int), .int .i64 i5, q3aIIS l6]], [], [], [], .str r12, [], [6202], [1]⟩)] [2, 7, 93, 1000001, 1000002, 1000003] [2, 7, 6202] ⟨96, [(2, .ptr 2 0), (7, .ptr 7 0), (93, .bool ((r11 != (0 : Int)) || (!(r12 == x1)))), (1000001, .tab .u64 Lib.pow10Tab), (1000002, errG), (1000003, errG)], [(2, .cells 79 [.int .i64 (0 : Int), .int .i64 (0 : Int), .nils]), (7, .cells 79 [.int .i64 (n4 : Int), .int .i64 i5, .own 6202]), (6202, q3bIIS_24 l6)], [], 0⟩ (an4 (cpL (c := true) [(6202, q3bIIS_24 l6)] [6202] [.agg [.int .i64 (n4 : Int), .int .i64 i5, .own 6202]] (fun _ => (f104_ok _ _ _ _ hr11)) (fun _ => ⟨.refl _, trivial⟩) (.inr ⟨rfl, trivial⟩)) (And.intro (cpL [(6202, q3bIIS_24 l6)] [6202] [.agg [.int .i64 (n4 : Int), .int .i64 i5, .own 6202]] (fun hc => (f105_ok _ _ _ _ (hr12 hc))) (fun _ => ⟨.refl _, trivial⟩) (.inr ⟨rfl, trivial⟩)) (an1 ob15)) (an2 ob16 ob17) ob18) ?_
   refine tN ?_
   refine AWp.cond (b := ((r11 != (0 : Int)) || (!(r12 == x1)))) (by kernel_rfl) (fun hc5 => ?_) (fun hc5 => ?_)
   ·
    replace h := ite_tb hc5 h
    refine q3rq [] [] [2, 3, 1000001, 1000002, 1000003] [2] ⟨96, [(2, .ptr 2 0), (3, .int .i64 (2 : Int)), (1000001, .tab .u64 Lib.pow10Tab), (1000002, errG), (1000003, errG)], [(2, .cells 79 [.int .i64 (0 : Int), .int .i64 (0 : Int), .nils])], [], 0⟩ (an1 trivial) ?_
    have hret := Option.some.inj h
    subst hret
    refine AWp.le (Le.mk (s' := ⟨96, [(2, .ptr 2 0), (3, .int .i64 (2 : Int))], [(2, .cells 79 [.int .i64 (0 : Int), .int .i64 (0 : Int), q3aIIS []])], [], 0⟩) rfl rfl ⟨.refl _, .refl _, trivial⟩ ⟨⟨_, rfl, (.cellsL ⟨.refl _, .refl _, .nilL, trivial⟩)⟩, trivial⟩) ?_
    refine AWp.ret ?_
    refine tR ?_
    exact bR _ rfl ⟨rfl, rfl⟩ rfl
   ·
    replace h := ite_fb hc5 h
    refine AWp.skip ?_
    refine tN ?_
    refine q3rq [] [] [2, 3, 1000001, 1000002, 1000003] [2, 6202] ⟨96, [(2, .ptr 2 0), (3, .int .i64 (0 : Int)), (1000001, .tab .u64 Lib.pow10Tab), (1000002, errG), (1000003, errG)], [(2, .cells 79 [.int .i64 (n4 : Int), .int .i64 i5, .own 6202]), (6202, q3bIIS_24 l6)], [], 0⟩ (an1 trivial) ?_
    refine AWp.le (Le.trans (Le.freeze 6202 rfl rfl) (Le.mk (s' := ⟨96, [(2, .ptr 2 0), (3, .int .i64 (0 : Int)), (1000001, .tab .u64 Lib.pow10Tab), (1000002, errG), (1000003, errG)], [(2, .cells 79 [.int .i64 (n4 : Int), .int .i64 i5, q3aIIS l6])], [], 0⟩) rfl rfl ⟨.refl _, .refl _, .refl _, .refl _, .refl _, trivial⟩ ⟨⟨_, rfl, .refl _⟩, trivial⟩)) ?_
    have hret := Option.some.inj h
    subst hret
    refine AWp.le (Le.mk (s' := ⟨96, [(2, .ptr 2 0), (3, .int .i64 (0 : Int))], [(2, .cells 79 [.int .i64 (n4 : Int), .int .i64 i5, q3aIIS l6])], [], 0⟩) rfl rfl ⟨.refl _, .refl _, trivial⟩ ⟨⟨_, rfl, .refl _⟩, trivial⟩) ?_
    refine AWp.ret ?_
    exact bR _ rfl ⟨rfl, rfl⟩ rfl
def f28_L0 (r4 : Int × Int × (List Tq1) × Int) (K1 : ((List Tq0) × (List Tq1) × (List Tq1)) → Option ((List Tq0) × (List Tq1) × (List Tq1))) : Nat → (Nat × (List Tq0) × (List Tq1) × (List Tq1)) → Option ((List Tq0) × (List Tq1) × (List Tq1))
 | 0, _ => none
 | k + 1, (n5, l6, l7, l8) =>
  if (decide ((n5 : Int) < (((r4.2.2.1).length : Nat) : Int))) then (
  chk ((n5 : Int) < (((r4.2.2.1).length : Nat) : Int)) <|
  (f11 l6 l7 ((r4.2.2.1.getD n5 (default : Tq1)).1) ((r4.2.2.1.getD n5 (default : Tq1)).2.1) ((r4.2.2.1.getD n5 (default : Tq1)).2.2)).bind fun (r9 : (List Tq0) × (List Tq1) × List UInt8) =>
  chk (((l8).length + 1) * 32 ≤ 140737488355328) <|
  chk (((n5 : Int) + (1 : Int)) ≤ 9223372036854775807) <|
  (f28_L0 r4 K1 k) ((n5 + 1), r9.1, r9.2.1, (l8 ++ [((r4.2.2.1.getD n5 (default : Tq1)).1, (r4.2.2.1.getD n5 (default : Tq1)).2.1, r9.2.2)]))
  ) else (
  K1 (l6, l7, l8)
  )
def f28 (x1 : List Tq0) (x2 : List Tq1) (x3 : List UInt8) : Option ((List Tq0) × (List Tq1) × (List Tq1)) :=
 (f59 x3).bind fun (r4 : Int × Int × (List Tq1) × Int) =>
 if (r4.2.2.2 != (0 : Int)) then (
 some (x1, x2, [])
 ) else (
 jn (fun ((l10, l11, l12) : (List Tq0) × (List Tq1) × (List Tq1)) =>
 some (l10, l11, l12)
 ) fun (K1 : ((List Tq0) × (List Tq1) × (List Tq1)) → Option ((List Tq0) × (List Tq1) × (List Tq1))) =>
 f28_L0 r4 K1 FUEL (0, x1, x2, [])
 )
theorem f28_ok  (x1 : List Tq0) (x2 : List Tq1) (x3 : List UInt8) (r : (List Tq0) × (List Tq1) × (List Tq1)) (h : f28 x1 x2 x3 = some r)  : Spec1 Tryz.prog 28 [(1, .tab .u64 Lib.pow10Tab), (2, errG), (3, errG)] [] [] [.agg [vL 3 eSSI (default : Tq0) x1, vL 3 eIIS (default : Tq1) x2], .str x3] (.tup [.agg [vL 3 eSSI (default : Tq0) r.1, vL 3 eIIS (default : Tq1) r.2.1], .own 3000]) [(3000, bL 96 3 eIIS (default : Tq1) r.2.2)] := by
 unfold f28 at h
 refine Spec1.bodyD [4] 0 _ _ Tryz.func28 rfl Tryz.ntmps28 rfl rfl ?_
 refine q3rq [] [] [1, 2, 4, 1000001, 1000002, 1000003] [2, 4] ⟨45, [(1, .str x3), (2, .ptr 2 0), (4, .ptr 4 0), (1000001, .tab .u64 Lib.pow10Tab), (1000002, errG), (1000003, errG)], [(2, .cells 30 [q3aSSI x1, q3aIIS x2]), (4, .cells 30 [.nils, .nils])], [], 0⟩ trivial ?_
 refine AWp.seq ?_
 obtain ⟨r4, hr4, h⟩ := bind_ok h
 refine q3rr [] [(1, ⟨[.str x3], [], [], [], .tup [.agg [.int .i64 r4.1, .int .i64 r4.2.1, q3aIIS r4.2.2.1], .int .i64 r4.2.2.2], [], [], [1, 2, 3]⟩)] [2, 4, 6, 7, 1000001, 1000002, 1000003] [2, 4, 6] ⟨45, [(2, .ptr 2 0), (4, .ptr 4 0), (6, .ptr 6 0), (7, .int .i64 r4.2.2.2), (1000001, .tab .u64 Lib.pow10Tab), (1000002, errG), (1000003, errG)], [(2, .cells 30 [q3aSSI x1, q3aIIS x2]), (4, .cells 30 [.nils, .nils]), (6, .cells 79 [.int .i64 r4.1, .int .i64 r4.2.1, q3aIIS r4.2.2.1])], [], 0⟩ (an2 (cpT (f59_ok _ _ hr4)) trivial) ?_
 refine tN ?_
 refine AWp.seq ?_
 refine q3rq [] [] [2, 4, 6, 18, 1000001, 1000002, 1000003] [2, 4, 6] ⟨45, [(2, .ptr 2 0), (4, .ptr 4 0), (6, .ptr 6 0), (18, .bool (r4.2.2.2 != (0 : Int))), (1000001, .tab .u64 Lib.pow10Tab), (1000002, errG), (1000003, errG)], [(2, .cells 30 [q3aSSI x1, q3aIIS x2]), (4, .cells 30 [.nils, .nils]), (6, .cells 79 [.int .i64 r4.1, .int .i64 r4.2.1, q3aIIS r4.2.2.1])], [], 0⟩ trivial ?_
 refine AWp.cond (b := (r4.2.2.2 != (0 : Int))) (by kernel_rfl) (fun hc1 => ?_) (fun hc1 => ?_)
 ·
  replace h := ite_tb hc1 h
  refine q3rq [] [] [4, 5, 1000001, 1000002, 1000003] [4] ⟨45, [(4, .ptr 4 0), (5, .nils), (1000001, .tab .u64 Lib.pow10Tab), (1000002, errG), (1000003, errG)], [(4, .cells 30 [q3aSSI x1, q3aIIS x2])], [], 0⟩ (an1 trivial) ?_
  refine AWp.le (Le.trans (Le.nilOwn 5 3000 96 3 (encF eIIS q3dIIS []) rfl rfl (Nat.le_of_ble_eq_true rfl)) (Le.mk (s' := ⟨45, [(4, .ptr 4 0), (5, .own 3000), (1000001, .tab .u64 Lib.pow10Tab), (1000002, errG), (1000003, errG)], [(4, .cells 30 [q3aSSI x1, q3aIIS x2]), (3000, q3bIIS_96 [])], [], 0⟩) rfl rfl ⟨.refl _, .refl _, .refl _, .refl _, .refl _, trivial⟩ ⟨⟨_, rfl, .refl _⟩, ⟨_, rfl, .refl _⟩, trivial⟩)) ?_
  have hret := Option.some.inj h
  subst hret
  refine AWp.le (Le.mk (s' := ⟨45, [(4, .ptr 4 0), (5, .own 3000)], [(3000, q3bIIS_96 []), (4, .cells 30 [q3aSSI x1, q3aIIS x2])], [], 0⟩) rfl rfl ⟨.refl _, .refl _, trivial⟩ ⟨⟨_, rfl, .refl _⟩, ⟨_, rfl, .refl _⟩, trivial⟩) ?_
  refine AWp.ret ?_
  refine tR ?_
  exact bR _ rfl ⟨rfl, rfl⟩ rfl
 ·
  replace h := ite_fb hc1 h
  refine AWp.skip ?_
  refine tN ?_
  refine q3rq [] [] [2, 4, 6, 8, 1000001, 1000002, 1000003] [2, 4, 6] ⟨45, [(2, .ptr 2 0), (4, .ptr 4 0), (6, .ptr 6 0), (8, .nils), (1000001, .tab .u64 Lib.pow10Tab), (1000002, errG), (1000003, errG)], [(2, .cells 30 [q3aSSI x1, q3aIIS x2]), (4, .cells 30 [.nils, .nils]), (6, .cells 79 [.int .i64 r4.1, .int .i64 r4.2.1, q3aIIS r4.2.2.1])], [], 0⟩ trivial ?_
  obtain ⟨K1, hK1, h⟩ := jn_some h
  refine AWp.join (α := (List Tq0) × (List Tq1) × (List Tq1)) (fun (x : (List Tq0) × (List Tq1) × (List Tq1)) => match x with | (l10, l11, l12) => ⟨45, [(2, .ptr 2 0), (4, .ptr 4 0), (8, .own 5008), (1000001, .tab .u64 Lib.pow10Tab), (1000002, errG), (1000003, errG)], [(2, .cells 30 [q3aSSI l10, q3aIIS l11]), (4, .cells 30 [.nils, .nils]), (5008, q3bIIS_96 l12)], [], 0⟩) (fun x => K1 x = some r) ?_ ?_
  ·
   refine q3rq [] [] [2, 4, 8, 21, 22, 23, 1000001, 1000002, 1000003] [2, 4] ⟨45, [(2, .ptr 2 0), (4, .ptr 4 0), (8, .nils), (21, q3aIIS r4.2.2.1), (22, .int .i64 (((r4.2.2.1).length : Nat) : Int)), (23, .int .i64 (0 : Int)), (1000001, .tab .u64 Lib.pow10Tab), (1000002, errG), (1000003, errG)], [(2, .cells 30 [q3aSSI x1, q3aIIS x2]), (4, .cells 30 [.nils, .nils])], [], 0⟩ trivial ?_
   refine AWp.block ?_
   refine AWp.loopL (α := Nat × (Nat × (List Tq0) × (List Tq1) × (List Tq1))) (fun x => match x with | (_, n5, l6, l7, l8) => ⟨45, [(2, .ptr 2 0), (4, .ptr 4 0), (8, .own 5008), (21, q3aIIS r4.2.2.1), (22, .int .i64 (((r4.2.2.1).length : Nat) : Int)), (23, .int .i64 (n5 : Int)), (1000001, .tab .u64 Lib.pow10Tab), (1000002, errG), (1000003, errG)], [(2, .cells 30 [q3aSSI l6, q3aIIS l7]), (4, .cells 30 [.nils, .nils]), (5008, q3bIIS_96 l8)], [], 0⟩) (fun x => f28_L0 r4 K1 x.1 x.2 = some r) (fun x => x.1) (FUEL, 0, x1, x2, []) (Le.trans (Le.trans (Le.nilOwn 8 5008 96 3 (encF eIIS q3dIIS []) rfl rfl (Nat.le_of_ble_eq_true rfl)) (Le.mk (s' := ⟨45, [(2, .ptr 2 0), (4, .ptr 4 0), (8, .own 5008), (21, q3aIIS r4.2.2.1), (22, .int .i64 (((r4.2.2.1).length : Nat) : Int)), (23, .int .i64 (0 : Int)), (1000001, .tab .u64 Lib.pow10Tab), (1000002, errG), (1000003, errG)], [(2, .cells 30 [q3aSSI x1, q3aIIS x2]), (4, .cells 30 [.nils, .nils]), (5008, q3bIIS_96 [])], [], 0⟩) rfl rfl ⟨.refl _, .refl _, .refl _, .refl _, .refl _, .refl _, .refl _, .refl _, .refl _, trivial⟩ ⟨⟨_, rfl, .refl _⟩, ⟨_, rfl, .refl _⟩, ⟨_, rfl, .refl _⟩, trivial⟩)) (Le.mk (s' := ⟨45, [(2, .ptr 2 0), (4, .ptr 4 0), (8, .own 5008), (21, q3aIIS r4.2.2.1), (22, .int .i64 (((r4.2.2.1).length : Nat) : Int)), (23, .int .i64 (0 : Int)), (1000001, .tab .u64 Lib.pow10Tab), (1000002, errG), (1000003, errG)], [(2, .cells 30 [q3aSSI x1, q3aIIS x2]), (4, .cells 30 [.nils, .nils]), (5008, q3bIIS_96 [])], [], 0⟩) rfl rfl ⟨.refl _, .refl _, .refl _, .refl _, .refl _, .refl _, .refl _, .refl _, .refl _, trivial⟩ ⟨⟨_, rfl, .refl _⟩, ⟨_, rfl, .refl _⟩, ⟨_, rfl, .refl _⟩, trivial⟩)) h ?_
   rintro ⟨k0, n5, l6, l7, l8⟩ h
   cases k0 with
   | zero => exact nomatch (show (none : Option ((List Tq0) × (List Tq1) × (List Tq1))) = some r from h)
   | succ k0 =>
   obtain ⟨C0, hC0⟩ : ∃ C, C = f28_L0 r4 K1 k0 := ⟨_, rfl⟩
   replace h := (f28_L0.eq_2 ..).symm.trans h
   try rw [← hC0] at h
   refine q3rq [] [] [2, 4, 8, 21, 22, 23, 24, 1000001, 1000002, 1000003] [2, 4, 5008] ⟨45, [(2, .ptr 2 0), (4, .ptr 4 0), (8, .own 5008), (21, q3aIIS r4.2.2.1), (22, .int .i64 (((r4.2.2.1).length : Nat) : Int)), (23, .int .i64 (n5 : Int)), (24, .bool (decide ((n5 : Int) < (((r4.2.2.1).length : Nat) : Int)))), (1000001, .tab .u64 Lib.pow10Tab), (1000002, errG), (1000003, errG)], [(2, .cells 30 [q3aSSI l6, q3aIIS l7]), (4, .cells 30 [.nils, .nils]), (5008, q3bIIS_96 l8)], [], 0⟩ trivial ?_
   refine AWp.seq ?_
   refine AWp.cond (b := (decide ((n5 : Int) < (((r4.2.2.1).length : Nat) : Int)))) (by kernel_rfl) (fun hc2 => ?_) (fun hc2 => ?_)
   ·
    replace h := ite_tb hc2 h
    refine AWp.skip ?_
    refine tN ?_
    refine AWp.seq ?_
    refine AWp.block ?_
    refine AWp.seq ?_
    obtain ⟨ob0p, h⟩ := chk_some h
    have ob0 : 0 ≤ (n5 : Int) ∧ (n5 : Int) < (((r4.2.2.1).length : Nat) : Int) := ⟨by omega, ob0p⟩
    refine q3rr [] [] [2, 4, 8, 10, 21, 22, 23, 1000001, 1000002, 1000003] [2, 4, 10, 5008] ⟨45, [(2, .ptr 2 0), (4, .ptr 4 0), (8, .own 5008), (10, .ptr 10 0), (21, q3aIIS r4.2.2.1), (22, .int .i64 (((r4.2.2.1).length : Nat) : Int)), (23, .int .i64 (n5 : Int)), (1000001, .tab .u64 Lib.pow10Tab), (1000002, errG), (1000003, errG)], [(2, .cells 30 [q3aSSI l6, q3aIIS l7]), (4, .cells 30 [.nils, .nils]), (10, .cells 24 [.int .i64 (r4.2.2.1.getD n5 q3dIIS).1, .int .i64 (r4.2.2.1.getD n5 q3dIIS).2.1, .str (r4.2.2.1.getD n5 q3dIIS).2.2]), (5008, q3bIIS_96 l8)], [], 0⟩ (an2 ob0 trivial) ?_
    refine tN ?_
    refine q3rq [] [] [2, 4, 8, 10, 21, 22, 23, 1000001, 1000002, 1000003] [2, 4, 10, 5008] ⟨45, [(2, .ptr 2 0), (4, .ptr 4 0), (8, .own 5008), (10, .ptr 10 0), (21, q3aIIS r4.2.2.1), (22, .int .i64 (((r4.2.2.1).length : Nat) : Int)), (23, .int .i64 (n5 : Int)), (1000001, .tab .u64 Lib.pow10Tab), (1000002, errG), (1000003, errG)], [(2, .cells 30 [q3aSSI l6, q3aIIS l7]), (4, .cells 30 [.nils, .nils]), (10, .cells 24 [.int .i64 (r4.2.2.1.getD n5 q3dIIS).1, .int .i64 (r4.2.2.1.getD n5 q3dIIS).2.1, .str (r4.2.2.1.getD n5 q3dIIS).2.2]), (5008, q3bIIS_96 l8)], [], 0⟩ trivial ?_
    refine AWp.seq ?_
    obtain ⟨r9, hr9, h⟩ := bind_ok h
    refine q3rr [] [(2, ⟨[.agg [q3aSSI l6, q3aIIS l7], .agg [.int .i64 (r4.2.2.1.getD n5 q3dIIS).1, .int .i64 (r4.2.2.1.getD n5 q3dIIS).2.1, .str (r4.2.2.1.getD n5 q3dIIS).2.2]], [], [], [], .tup [.agg [q3aSSI r9.1, q3aIIS r9.2.1], .str r9.2.2], [], [], [1]⟩)] [2, 4, 8, 10, 11, 21, 22, 23, 1000001, 1000002, 1000003] [2, 4, 10, 5008] ⟨45, [(2, .ptr 2 0), (4, .ptr 4 0), (8, .own 5008), (10, .ptr 10 0), (11, .str r9.2.2), (21, q3aIIS r4.2.2.1), (22, .int .i64 (((r4.2.2.1).length : Nat) : Int)), (23, .int .i64 (n5 : Int)), (1000001, .tab .u64 Lib.pow10Tab), (1000002, errG), (1000003, errG)], [(2, .cells 30 [q3aSSI r9.1, q3aIIS r9.2.1]), (4, .cells 30 [.nils, .nils]), (10, .cells 24 [.int .i64 (r4.2.2.1.getD n5 q3dIIS).1, .int .i64 (r4.2.2.1.getD n5 q3dIIS).2.1, .str (r4.2.2.1.getD n5 q3dIIS).2.2]), (5008, q3bIIS_96 l8)], [], 0⟩ (an2 (cpT (f11_ok _ _ _ _ _ _ hr9)) trivial) ?_
    refine tN ?_
    obtain ⟨ob1, h⟩ := chk_some h
    refine q3rr [] [] [2, 4, 8, 21, 22, 23, 1000001, 1000002, 1000003] [2, 4, 5008] ⟨45, [(2, .ptr 2 0), (4, .ptr 4 0), (8, .own 5008), (21, q3aIIS r4.2.2.1), (22, .int .i64 (((r4.2.2.1).length : Nat) : Int)), (23, .int .i64 (n5 : Int)), (1000001, .tab .u64 Lib.pow10Tab), (1000002, errG), (1000003, errG)], [(2, .cells 30 [q3aSSI r9.1, q3aIIS r9.2.1]), (4, .cells 30 [.nils, .nils]), (5008, .rows 96 3 ((l8).length + 1) (appF (l8).length (encF eIIS q3dIIS l8) (lstF 3 [.int .i64 (r4.2.2.1.getD n5 q3dIIS).1, .int .i64 (r4.2.2.1.getD n5 q3dIIS).2.1, .str r9.2.2])))], [], 0⟩ (an1 ob1) ?_
    refine kN ?_
    refine tN ?_
    refine AWp.le (Le.mk (s' := ⟨45, [(2, .ptr 2 0), (4, .ptr 4 0), (8, .own 5008), (21, q3aIIS r4.2.2.1), (22, .int .i64 (((r4.2.2.1).length : Nat) : Int)), (23, .int .i64 (n5 : Int)), (1000001, .tab .u64 Lib.pow10Tab), (1000002, errG), (1000003, errG)], [(2, .cells 30 [q3aSSI r9.1, q3aIIS r9.2.1]), (4, .cells 30 [.nils, .nils]), (5008, q3bIIS_96 (l8 ++ [((r4.2.2.1.getD n5 q3dIIS).1, (r4.2.2.1.getD n5 q3dIIS).2.1, r9.2.2)]))], [], 0⟩) rfl rfl ⟨.refl _, .refl _, .refl _, .refl _, .refl _, .refl _, .refl _, .refl _, .refl _, trivial⟩ ⟨⟨_, rfl, .refl _⟩, ⟨_, rfl, .refl _⟩, ⟨_, rfl, (BLe.of (RL.app (RL.self _) (RL.lst (enc := eIIS) [((r4.2.2.1.getD n5 q3dIIS).1, (r4.2.2.1.getD n5 q3dIIS).2.1, r9.2.2)] rfl rfl (fun _ => rfl))))⟩, trivial⟩) ?_
    obtain ⟨ob2p, h⟩ := chk_some h
    have ob2 : -9223372036854775808 ≤ ((n5 : Int) + (1 : Int)) ∧ ((n5 : Int) + (1 : Int)) ≤ 9223372036854775807 := ⟨by omega, ob2p⟩
    refine q3rr [] [] [2, 4, 8, 21, 22, 23, 1000001, 1000002, 1000003] [2, 4, 5008] ⟨45, [(2, .ptr 2 0), (4, .ptr 4 0), (8, .own 5008), (21, q3aIIS r4.2.2.1), (22, .int .i64 (((r4.2.2.1).length : Nat) : Int)), (23, .int .i64 (((n5 + 1) : Nat) : Int)), (1000001, .tab .u64 Lib.pow10Tab), (1000002, errG), (1000003, errG)], [(2, .cells 30 [q3aSSI r9.1, q3aIIS r9.2.1]), (4, .cells 30 [.nils, .nils]), (5008, q3bIIS_96 (l8 ++ [((r4.2.2.1.getD n5 q3dIIS).1, (r4.2.2.1.getD n5 q3dIIS).2.1, r9.2.2)]))], [], 0⟩ (an1 ob2) ?_
    rw [hC0] at h
    exact lN (_, (n5 + 1), r9.1, r9.2.1, (l8 ++ [((r4.2.2.1.getD n5 q3dIIS).1, (r4.2.2.1.getD n5 q3dIIS).2.1, r9.2.2)])) (Le.mk rfl rfl ⟨.refl _, .refl _, .refl _, .refl _, .refl _, .refl _, .refl _, .refl _, .refl _, trivial⟩ ⟨⟨_, rfl, .refl _⟩, ⟨_, rfl, .refl _⟩, ⟨_, rfl, .refl _⟩, trivial⟩) h (Nat.lt_succ_self _)
   ·
    replace h := ite_fb hc2 h
    refine AWp.exit ?_
    refine tE ?_
    refine tE ?_
    refine kS ?_
    exact jN (l6, l7, l8) (Le.mk rfl rfl ⟨.refl _, .refl _, .refl _, .refl _, .refl _, .refl _, trivial⟩ ⟨⟨_, rfl, .refl _⟩, ⟨_, rfl, .refl _⟩, ⟨_, rfl, .refl _⟩, trivial⟩) h
  ·
   rintro ⟨l10, l11, l12⟩ h
   replace h := (congrFun hK1 _).symm.trans h
   refine q3rq [] [] [4, 5, 1000001, 1000002, 1000003] [4, 5008] ⟨45, [(4, .ptr 4 0), (5, .own 5008), (1000001, .tab .u64 Lib.pow10Tab), (1000002, errG), (1000003, errG)], [(4, .cells 30 [q3aSSI l10, q3aIIS l11]), (5008, q3bIIS_96 l12)], [], 0⟩ (an1 trivial) ?_
   refine AWp.le (Le.trans (Le.ren (swapN 5008 3000) (swapN_inv 5008 3000) rfl) (Le.mk (s' := ⟨45, [(4, .ptr 4 0), (5, .own 3000), (1000001, .tab .u64 Lib.pow10Tab), (1000002, errG), (1000003, errG)], [(4, .cells 30 [q3aSSI l10, q3aIIS l11]), (3000, q3bIIS_96 l12)], [], 0⟩) rfl rfl ⟨.refl _, .refl _, .refl _, .refl _, .refl _, trivial⟩ ⟨⟨_, rfl, .refl _⟩, ⟨_, rfl, .refl _⟩, trivial⟩)) ?_
   have hret := Option.some.inj h
   subst hret
   refine AWp.le (Le.mk (s' := ⟨45, [(4, .ptr 4 0), (5, .own 3000)], [(3000, q3bIIS_96 l12), (4, .cells 30 [q3aSSI l10, q3aIIS l11])], [], 0⟩) rfl rfl ⟨.refl _, .refl _, trivial⟩ ⟨⟨_, rfl, .refl _⟩, ⟨_, rfl, .refl _⟩, trivial⟩) ?_
   refine AWp.ret ?_
   exact bR _ rfl ⟨rfl, rfl⟩ rfl
def f29_L0 (r4 : Int × Int × (List Tq1) × Int) (K1 : ((List Tq0) × (List Tq1) × (List Tq1)) → Option ((List Tq0) × (List Tq1) × (List Tq1))) : Nat → (Nat × (List Tq0) × (List Tq1) × (List Tq1)) → Option ((List Tq0) × (List Tq1) × (List Tq1))
 | 0, _ => none
 | k + 1, (n5, l6, l7, l8) =>
  if (decide ((n5 : Int) < (((r4.2.2.1).length : Nat) : Int))) then (
  chk ((n5 : Int) < (((r4.2.2.1).length : Nat) : Int)) <|
  (f15 l6 l7 ((r4.2.2.1.getD n5 (default : Tq1)).1) ((r4.2.2.1.getD n5 (default : Tq1)).2.1) ((r4.2.2.1.getD n5 (default : Tq1)).2.2)).bind fun (r9 : (List Tq0) × (List Tq1) × List UInt8) =>
  chk (((l8).length + 1) * 32 ≤ 140737488355328) <|
  chk (((n5 : Int) + (1 : Int)) ≤ 9223372036854775807) <|
  (f29_L0 r4 K1 k) ((n5 + 1), r9.1, r9.2.1, (l8 ++ [((r4.2.2.1.getD n5 (default : Tq1)).1, (r4.2.2.1.getD n5 (default : Tq1)).2.1, r9.2.2)]))
  ) else (
  K1 (l6, l7, l8)
  )
def f29 (x1 : List Tq0) (x2 : List Tq1) (x3 : List UInt8) : Option ((List Tq0) × (List Tq1) × (List Tq1)) :=
 (f46 x3).bind fun (r4 : Int × Int × (List Tq1) × Int) =>
 if (r4.2.2.2 != (0 : Int)) then (
 some (x1, x2, [])
 ) else (
 jn (fun ((l10, l11, l12) : (List Tq0) × (List Tq1) × (List Tq1)) =>
 some (l10, l11, l12)
 ) fun (K1 : ((List Tq0) × (List Tq1) × (List Tq1)) → Option ((List Tq0) × (List Tq1) × (List Tq1))) =>
 f29_L0 r4 K1 FUEL (0, x1, x2, [])
 )
theorem f29_ok  (x1 : List Tq0) (x2 : List Tq1) (x3 : List UInt8) (r : (List Tq0) × (List Tq1) × (List Tq1)) (h : f29 x1 x2 x3 = some r)  : Spec1 Tryz.prog 29 [] [] [] [.agg [vL 3 eSSI (default : Tq0) x1, vL 3 eIIS (default : Tq1) x2], .str x3] (.tup [.agg [vL 3 eSSI (default : Tq0) r.1, vL 3 eIIS (default : Tq1) r.2.1], .own 3000]) [(3000, bL 96 3 eIIS (default : Tq1) r.2.2)] := by
 unfold f29 at h
 refine Spec1.bodyD [4] 0 _ _ Tryz.func29 rfl Tryz.ntmps29 rfl rfl ?_
 refine q3rq [] [] [1, 2, 4] [2, 4] ⟨51, [(1, .str x3), (2, .ptr 2 0), (4, .ptr 4 0)], [(2, .cells 30 [q3aSSI x1, q3aIIS x2]), (4, .cells 30 [.nils, .nils])], [], 0⟩ trivial ?_
 refine AWp.seq ?_
 obtain ⟨r4, hr4, h⟩ := bind_ok h
 refine q3rr [] [(1, ⟨[.str x3], [], [], [], .tup [.agg [.int .i64 r4.1, .int .i64 r4.2.1, q3aIIS r4.2.2.1], .int .i64 r4.2.2.2], [], [], []⟩)] [2, 4, 6, 7] [2, 4, 6] ⟨51, [(2, .ptr 2 0), (4, .ptr 4 0), (6, .ptr 6 0), (7, .int .i64 r4.2.2.2)], [(2, .cells 30 [q3aSSI x1, q3aIIS x2]), (4, .cells 30 [.nils, .nils]), (6, .cells 79 [.int .i64 r4.1, .int .i64 r4.2.1, q3aIIS r4.2.2.1])], [], 0⟩ (an2 (cpT (f46_ok _ _ hr4)) trivial) ?_
 refine tN ?_
 refine AWp.seq ?_
 refine q3rq [] [] [2, 4, 6, 19] [2, 4, 6] ⟨51, [(2, .ptr 2 0), (4, .ptr 4 0), (6, .ptr 6 0), (19, .bool (r4.2.2.2 != (0 : Int)))], [(2, .cells 30 [q3aSSI x1, q3aIIS x2]), (4, .cells 30 [.nils, .nils]), (6, .cells 79 [.int .i64 r4.1, .int .i64 r4.2.1, q3aIIS r4.2.2.1])], [], 0⟩ trivial ?_
 refine AWp.cond (b := (r4.2.2.2 != (0 : Int))) (by kernel_rfl) (fun hc1 => ?_) (fun hc1 => ?_)
 ·
  replace h := ite_tb hc1 h
  refine q3rq [] [] [4, 5] [4] ⟨51, [(4, .ptr 4 0), (5, .nils)], [(4, .cells 30 [q3aSSI x1, q3aIIS x2])], [], 0⟩ (an1 trivial) ?_
  refine AWp.le (Le.trans (Le.nilOwn 5 3000 96 3 (encF eIIS q3dIIS []) rfl rfl (Nat.le_of_ble_eq_true rfl)) (Le.mk (s' := ⟨51, [(4, .ptr 4 0), (5, .own 3000)], [(4, .cells 30 [q3aSSI x1, q3aIIS x2]), (3000, q3bIIS_96 [])], [], 0⟩) rfl rfl ⟨.refl _, .refl _, trivial⟩ ⟨⟨_, rfl, .refl _⟩, ⟨_, rfl, .refl _⟩, trivial⟩)) ?_
  have hret := Option.some.inj h
  subst hret
  refine AWp.le (Le.mk (s' := ⟨51, [(4, .ptr 4 0), (5, .own 3000)], [(3000, q3bIIS_96 []), (4, .cells 30 [q3aSSI x1, q3aIIS x2])], [], 0⟩) rfl rfl ⟨.refl _, .refl _, trivial⟩ ⟨⟨_, rfl, .refl _⟩, ⟨_, rfl, .refl _⟩, trivial⟩) ?_
  refine AWp.ret ?_
  refine tR ?_
  exact bR _ rfl ⟨rfl, rfl⟩ rfl
 ·
  replace h := ite_fb hc1 h
  refine AWp.skip ?_
  refine tN ?_
  refine q3rq [] [] [2, 4, 6, 8] [2, 4, 6] ⟨51, [(2, .ptr 2 0), (4, .ptr 4 0), (6, .ptr 6 0), (8, .nils)], [(2, .cells 30 [q3aSSI x1, q3aIIS x2]), (4, .cells 30 [.nils, .nils]), (6, .cells 79 [.int .i64 r4.1, .int .i64 r4.2.1, q3aIIS r4.2.2.1])], [], 0⟩ trivial ?_
  obtain ⟨K1, hK1, h⟩ := jn_some h
  refine AWp.join (α := (List Tq0) × (List Tq1) × (List Tq1)) (fun (x : (List Tq0) × (List Tq1) × (List Tq1)) => match x with | (l10, l11, l12) => ⟨51, [(2, .ptr 2 0), (4, .ptr 4 0), (8, .own 5008)], [(2, .cells 30 [q3aSSI l10, q3aIIS l11]), (4, .cells 30 [.nils, .nils]), (5008, q3bIIS_96 l12)], [], 0⟩) (fun x => K1 x = some r) ?_ ?_
  ·
   refine q3rq [] [] [2, 4, 6, 8, 9] [2, 4, 6] ⟨51, [(2, .ptr 2 0), (4, .ptr 4 0), (6, .ptr 6 0), (8, .nils), (9, .int .i64 (0 : Int))], [(2, .cells 30 [q3aSSI x1, q3aIIS x2]), (4, .cells 30 [.nils, .nils]), (6, .cells 79 [.int .i64 r4.1, .int .i64 r4.2.1, q3aIIS r4.2.2.1])], [], 0⟩ trivial ?_
   refine AWp.block ?_
   refine AWp.loopL (α := Nat × (Nat × (List Tq0) × (List Tq1) × (List Tq1))) (fun x => match x with | (_, n5, l6, l7, l8) => ⟨51, [(2, .ptr 2 0), (4, .ptr 4 0), (6, .ptr 6 0), (8, .own 5008), (9, .int .i64 (n5 : Int))], [(2, .cells 30 [q3aSSI l6, q3aIIS l7]), (4, .cells 30 [.nils, .nils]), (6, .cells 79 [.int .i64 r4.1, .int .i64 r4.2.1, q3aIIS r4.2.2.1]), (5008, q3bIIS_96 l8)], [], 0⟩) (fun x => f29_L0 r4 K1 x.1 x.2 = some r) (fun x => x.1) (FUEL, 0, x1, x2, []) (Le.trans (Le.trans (Le.nilOwn 8 5008 96 3 (encF eIIS q3dIIS []) rfl rfl (Nat.le_of_ble_eq_true rfl)) (Le.mk (s' := ⟨51, [(2, .ptr 2 0), (4, .ptr 4 0), (6, .ptr 6 0), (8, .own 5008), (9, .int .i64 (0 : Int))], [(2, .cells 30 [q3aSSI x1, q3aIIS x2]), (4, .cells 30 [.nils, .nils]), (6, .cells 79 [.int .i64 r4.1, .int .i64 r4.2.1, q3aIIS r4.2.2.1]), (5008, q3bIIS_96 [])], [], 0⟩) rfl rfl ⟨.refl _, .refl _, .refl _, .refl _, .refl _, trivial⟩ ⟨⟨_, rfl, .refl _⟩, ⟨_, rfl, .refl _⟩, ⟨_, rfl, .refl _⟩, ⟨_, rfl, .refl _⟩, trivial⟩)) (Le.mk (s' := ⟨51, [(2, .ptr 2 0), (4, .ptr 4 0), (6, .ptr 6 0), (8, .own 5008), (9, .int .i64 (0 : Int))], [(2, .cells 30 [q3aSSI x1, q3aIIS x2]), (4, .cells 30 [.nils, .nils]), (6, .cells 79 [.int .i64 r4.1, .int .i64 r4.2.1, q3aIIS r4.2.2.1]), (5008, q3bIIS_96 [])], [], 0⟩) rfl rfl ⟨.refl _, .refl _, .refl _, .refl _, .refl _, trivial⟩ ⟨⟨_, rfl, .refl _⟩, ⟨_, rfl, .refl _⟩, ⟨_, rfl, .refl _⟩, ⟨_, rfl, .refl _⟩, trivial⟩)) h ?_
   rintro ⟨k0, n5, l6, l7, l8⟩ h
   cases k0 with
   | zero => exact nomatch (show (none : Option ((List Tq0) × (List Tq1) × (List Tq1))) = some r from h)
   | succ k0 =>
   obtain ⟨C0, hC0⟩ : ∃ C, C = f29_L0 r4 K1 k0 := ⟨_, rfl⟩
   replace h := (f29_L0.eq_2 ..).symm.trans h
   try rw [← hC0] at h
   refine AWp.seq ?_
   refine q3rq [] [] [2, 4, 6, 8, 9, 25] [2, 4, 6, 5008] ⟨51, [(2, .ptr 2 0), (4, .ptr 4 0), (6, .ptr 6 0), (8, .own 5008), (9, .int .i64 (n5 : Int)), (25, .bool (decide ((n5 : Int) < (((r4.2.2.1).length : Nat) : Int))))], [(2, .cells 30 [q3aSSI l6, q3aIIS l7]), (4, .cells 30 [.nils, .nils]), (6, .cells 79 [.int .i64 r4.1, .int .i64 r4.2.1, q3aIIS r4.2.2.1]), (5008, q3bIIS_96 l8)], [], 0⟩ trivial ?_
   refine AWp.cond (b := (decide ((n5 : Int) < (((r4.2.2.1).length : Nat) : Int)))) (by kernel_rfl) (fun hc2 => ?_) (fun hc2 => ?_)
   ·
    replace h := ite_tb hc2 h
    refine AWp.skip ?_
    refine tN ?_
    refine AWp.seq ?_
    refine AWp.block ?_
    refine AWp.seq ?_
    obtain ⟨ob0p, h⟩ := chk_some h
    have ob0 : 0 ≤ (n5 : Int) ∧ (n5 : Int) < (((r4.2.2.1).length : Nat) : Int) := ⟨by omega, ob0p⟩
    refine q3rr [] [] [2, 4, 6, 8, 9, 10] [2, 4, 6, 10, 5008] ⟨51, [(2, .ptr 2 0), (4, .ptr 4 0), (6, .ptr 6 0), (8, .own 5008), (9, .int .i64 (n5 : Int)), (10, .ptr 10 0)], [(2, .cells 30 [q3aSSI l6, q3aIIS l7]), (4, .cells 30 [.nils, .nils]), (6, .cells 79 [.int .i64 r4.1, .int .i64 r4.2.1, q3aIIS r4.2.2.1]), (10, .cells 24 [.int .i64 (r4.2.2.1.getD n5 q3dIIS).1, .int .i64 (r4.2.2.1.getD n5 q3dIIS).2.1, .str (r4.2.2.1.getD n5 q3dIIS).2.2]), (5008, q3bIIS_96 l8)], [], 0⟩ (an2 ob0 trivial) ?_
    refine tN ?_
    refine AWp.seq ?_
    obtain ⟨r9, hr9, h⟩ := bind_ok h
    refine q3rr [] [(2, ⟨[.agg [q3aSSI l6, q3aIIS l7], .agg [.int .i64 (r4.2.2.1.getD n5 q3dIIS).1, .int .i64 (r4.2.2.1.getD n5 q3dIIS).2.1, .str (r4.2.2.1.getD n5 q3dIIS).2.2]], [], [], [], .tup [.agg [q3aSSI r9.1, q3aIIS r9.2.1], .str r9.2.2], [], [], []⟩)] [2, 4, 6, 8, 9, 10, 11, 12] [2, 4, 6, 10, 11, 5008] ⟨51, [(2, .ptr 2 0), (4, .ptr 4 0), (6, .ptr 6 0), (8, .own 5008), (9, .int .i64 (n5 : Int)), (10, .ptr 10 0), (11, .ptr 11 0), (12, .str r9.2.2)], [(2, .cells 30 [q3aSSI l6, q3aIIS l7]), (4, .cells 30 [.nils, .nils]), (6, .cells 79 [.int .i64 r4.1, .int .i64 r4.2.1, q3aIIS r4.2.2.1]), (10, .cells 24 [.int .i64 (r4.2.2.1.getD n5 q3dIIS).1, .int .i64 (r4.2.2.1.getD n5 q3dIIS).2.1, .str (r4.2.2.1.getD n5 q3dIIS).2.2]), (11, .cells 30 [q3aSSI r9.1, q3aIIS r9.2.1]), (5008, q3bIIS_96 l8)], [], 0⟩ (an2 (cpT (f15_ok _ _ _ _ _ _ hr9)) trivial) ?_
    refine tN ?_
    refine q3rq [] [] [2, 4, 6, 8, 9, 10, 12] [2, 4, 6, 10, 5008] ⟨51, [(2, .ptr 2 0), (4, .ptr 4 0), (6, .ptr 6 0), (8, .own 5008), (9, .int .i64 (n5 : Int)), (10, .ptr 10 0), (12, .str r9.2.2)], [(2, .cells 30 [q3aSSI r9.1, q3aIIS r9.2.1]), (4, .cells 30 [.nils, .nils]), (6, .cells 79 [.int .i64 r4.1, .int .i64 r4.2.1, q3aIIS r4.2.2.1]), (10, .cells 24 [.int .i64 (r4.2.2.1.getD n5 q3dIIS).1, .int .i64 (r4.2.2.1.getD n5 q3dIIS).2.1, .str (r4.2.2.1.getD n5 q3dIIS).2.2]), (5008, q3bIIS_96 l8)], [], 0⟩ (an1 trivial) ?_
    obtain ⟨ob1, h⟩ := chk_some h
    refine q3rr [] [] [2, 4, 6, 8, 9] [2, 4, 6, 5008] ⟨51, [(2, .ptr 2 0), (4, .ptr 4 0), (6, .ptr 6 0), (8, .own 5008), (9, .int .i64 (n5 : Int))], [(2, .cells 30 [q3aSSI r9.1, q3aIIS r9.2.1]), (4, .cells 30 [.nils, .nils]), (6, .cells 79 [.int .i64 r4.1, .int .i64 r4.2.1, q3aIIS r4.2.2.1]), (5008, .rows 96 3 ((l8).length + 1) (appF (l8).length (encF eIIS q3dIIS l8) (lstF 3 [.int .i64 (r4.2.2.1.getD n5 q3dIIS).1, .int .i64 (r4.2.2.1.getD n5 q3dIIS).2.1, .str r9.2.2])))], [], 0⟩ (an1 ob1) ?_
    refine kN ?_
    refine tN ?_
    refine AWp.le (Le.mk (s' := ⟨51, [(2, .ptr 2 0), (4, .ptr 4 0), (6, .ptr 6 0), (8, .own 5008), (9, .int .i64 (n5 : Int))], [(2, .cells 30 [q3aSSI r9.1, q3aIIS r9.2.1]), (4, .cells 30 [.nils, .nils]), (6, .cells 79 [.int .i64 r4.1, .int .i64 r4.2.1, q3aIIS r4.2.2.1]), (5008, q3bIIS_96 (l8 ++ [((r4.2.2.1.getD n5 q3dIIS).1, (r4.2.2.1.getD n5 q3dIIS).2.1, r9.2.2)]))], [], 0⟩) rfl rfl ⟨.refl _, .refl _, .refl _, .refl _, .refl _, trivial⟩ ⟨⟨_, rfl, .refl _⟩, ⟨_, rfl, .refl _⟩, ⟨_, rfl, .refl _⟩, ⟨_, rfl, (BLe.of (RL.app (RL.self _) (RL.lst (enc := eIIS) [((r4.2.2.1.getD n5 q3dIIS).1, (r4.2.2.1.getD n5 q3dIIS).2.1, r9.2.2)] rfl rfl (fun _ => rfl))))⟩, trivial⟩) ?_
    obtain ⟨ob2p, h⟩ := chk_some h
    have ob2 : -9223372036854775808 ≤ ((n5 : Int) + (1 : Int)) ∧ ((n5 : Int) + (1 : Int)) ≤ 9223372036854775807 := ⟨by omega, ob2p⟩
    refine q3rr [] [] [2, 4, 6, 8, 9] [2, 4, 6, 5008] ⟨51, [(2, .ptr 2 0), (4, .ptr 4 0), (6, .ptr 6 0), (8, .own 5008), (9, .int .i64 (((n5 + 1) : Nat) : Int))], [(2, .cells 30 [q3aSSI r9.1, q3aIIS r9.2.1]), (4, .cells 30 [.nils, .nils]), (6, .cells 79 [.int .i64 r4.1, .int .i64 r4.2.1, q3aIIS r4.2.2.1]), (5008, q3bIIS_96 (l8 ++ [((r4.2.2.1.getD n5 q3dIIS).1, (r4.2.2.1.getD n5 q3dIIS).2.1, r9.2.2)]))], [], 0⟩ (an1 ob2) ?_
    rw [hC0] at h
    exact lN (_, (n5 + 1), r9.1, r9.2.1, (l8 ++ [((r4.2.2.1.getD n5 q3dIIS).1, (r4.2.2.1.getD n5 q3dIIS).2.1, r9.2.2)])) (Le.mk rfl rfl ⟨.refl _, .refl _, .refl _, .refl _, .refl _, trivial⟩ ⟨⟨_, rfl, .refl _⟩, ⟨_, rfl, .refl _⟩, ⟨_, rfl, .refl _⟩, ⟨_, rfl, .refl _⟩, trivial⟩) h (Nat.lt_succ_self _)
   ·
    replace h := ite_fb hc2 h
    refine AWp.exit ?_
    refine tE ?_
    refine tE ?_
    refine kS ?_
    exact jN (l6, l7, l8) (Le.mk rfl rfl ⟨.refl _, .refl _, .refl _, trivial⟩ ⟨⟨_, rfl, .refl _⟩, ⟨_, rfl, .refl _⟩, ⟨_, rfl, .refl _⟩, trivial⟩) h
  ·
   rintro ⟨l10, l11, l12⟩ h
   replace h := (congrFun hK1 _).symm.trans h
   refine q3rq [] [] [4, 5] [4, 5008] ⟨51, [(4, .ptr 4 0), (5, .own 5008)], [(4, .cells 30 [q3aSSI l10, q3aIIS l11]), (5008, q3bIIS_96 l12)], [], 0⟩ (an1 trivial) ?_
   refine AWp.le (Le.trans (Le.ren (swapN 5008 3000) (swapN_inv 5008 3000) rfl) (Le.mk (s' := ⟨51, [(4, .ptr 4 0), (5, .own 3000)], [(4, .cells 30 [q3aSSI l10, q3aIIS l11]), (3000, q3bIIS_96 l12)], [], 0⟩) rfl rfl ⟨.refl _, .refl _, trivial⟩ ⟨⟨_, rfl, .refl _⟩, ⟨_, rfl, .refl _⟩, trivial⟩)) ?_
   have hret := Option.some.inj h
   subst hret
   refine AWp.le (Le.mk (s' := ⟨51, [(4, .ptr 4 0), (5, .own 3000)], [(3000, q3bIIS_96 l12), (4, .cells 30 [q3aSSI l10, q3aIIS l11])], [], 0⟩) rfl rfl ⟨.refl _, .refl _, trivial⟩ ⟨⟨_, rfl, .refl _⟩, ⟨_, rfl, .refl _⟩, trivial⟩) ?_
   refine AWp.ret ?_
   exact bR _ rfl ⟨rfl, rfl⟩ rfl
def f31_L0 (x1 : List (List UInt8)) (K1 : Unit → Option Bool) : Nat → Nat → Option Bool
 | 0, _ => none
 | k + 1, n2 =>
  if (decide ((n2 : Int) < (((x1).length : Nat) : Int))) then (
  chk ((n2 : Int) < (((x1).length : Nat) : Int)) <|
  if (decide ((((x1.getD n2 []).length : Nat) : Int) > (300 : Int))) then (
  some false
  ) else (
  chk (((n2 : Int) + (1 : Int)) ≤ 9223372036854775807) <|
  (f31_L0 x1 K1 k) (n2 + 1)
  )
  ) else (
  K1 ()
  )
theorem f31_L0_e2 (x1 : List (List UInt8)) (K1 : Unit → Option Bool) (k : Nat) (n2 : Nat) : f31_L0 x1 K1 (k + 1) n2 =
  if (decide ((n2 : Int) < (((x1).length : Nat) : Int))) then (
  chk ((n2 : Int) < (((x1).length : Nat) : Int)) <|
  if (decide ((((x1.getD n2 []).length : Nat) : Int) > (300 : Int))) then (
  some false
  ) else (
  chk (((n2 : Int) + (1 : Int)) ≤ 9223372036854775807) <|
  (f31_L0 x1 K1 k) (n2 + 1)
  )
  ) else (
  K1 ()
  ) := rfl
def f31 (x1 : List (List UInt8)) : Option Bool :=
 jn (fun (_ : Unit) =>
 some (decide ((((x1).length : Nat) : Int) ≤ (20 : Int)))
 ) fun (K1 : Unit → Option Bool) =>
 f31_L0 x1 K1 FUEL 0
theorem f31_ok  (x1 : List (List UInt8)) (r : Bool) (h : f31 x1 = some r)  : Spec1 Tryz.prog 31 [] [] [] [vL 1 eS [] x1] (.bool r) [] := by
 unfold f31 at h
 refine Spec1.body 0 _ _ Tryz.func31 rfl Tryz.ntmps31 rfl rfl ?_
 refine q3rq [] [] [0] [] ⟨19, [(0, q3aS x1)], [], [], 0⟩ trivial ?_
 obtain ⟨K1, hK1, h⟩ := jn_some h
 refine AWp.join (α := Unit) (fun (x : Unit) => match x with | () => ⟨19, [(0, q3aS x1)], [], [], 0⟩) (fun x => K1 x = some r) ?_ ?_
 ·
  refine q3rq [] [] [0, 3] [] ⟨19, [(0, q3aS x1), (3, .int .i64 (0 : Int))], [], [], 0⟩ trivial ?_
  refine AWp.block ?_
  refine AWp.loopL (α := Nat × Nat) (fun x => match x with | (_, n2) => ⟨19, [(0, q3aS x1), (3, .int .i64 (n2 : Int))], [], [], 0⟩) (fun x => f31_L0 x1 K1 x.1 x.2 = some r) (fun x => x.1) (FUEL, 0) (Le.mk (s' := ⟨19, [(0, q3aS x1), (3, .int .i64 (0 : Int))], [], [], 0⟩) rfl rfl ⟨.refl _, .refl _, trivial⟩ trivial) h ?_
  rintro ⟨k0, n2⟩ h
  cases k0 with
  | zero => exact nomatch (show (none : Option Bool) = some r from h)
  | succ k0 =>
  obtain ⟨C0, hC0⟩ : ∃ C, C = f31_L0 x1 K1 k0 := ⟨_, rfl⟩
  replace h := (f31_L0_e2 ..).symm.trans h
  try rw [← hC0] at h
  refine AWp.seq ?_
  refine q3rq [] [] [0, 3, 7] [] ⟨19, [(0, q3aS x1), (3, .int .i64 (n2 : Int)), (7, .bool (decide ((n2 : Int) < (((x1).length : Nat) : Int))))], [], [], 0⟩ trivial ?_
  refine AWp.cond (b := (decide ((n2 : Int) < (((x1).length : Nat) : Int)))) (by kernel_rfl) (fun hc1 => ?_) (fun hc1 => ?_)
  ·
   replace h := ite_tb hc1 h
   refine AWp.skip ?_
   refine tN ?_
   refine AWp.seq ?_
   refine AWp.block ?_
   refine AWp.seq ?_
   obtain ⟨ob0p, h⟩ := chk_some h
   have ob0 : 0 ≤ (n2 : Int) ∧ (n2 : Int) < (((x1).length : Nat) : Int) := ⟨by omega, ob0p⟩
   refine q3rr [] [] [0, 3, 15] [] ⟨19, [(0, q3aS x1), (3, .int .i64 (n2 : Int)), (15, .bool (decide ((((x1.getD n2 []).length : Nat) : Int) > (300 : Int))))], [], [], 0⟩ (an1 ob0) ?_
   refine tN ?_
   refine AWp.cond (b := (decide ((((x1.getD n2 []).length : Nat) : Int) > (300 : Int)))) (by kernel_rfl) (fun hc2 => ?_) (fun hc2 => ?_)
   ·
    replace h := ite_tb hc2 h
    refine q3rq [] [] [2] [] ⟨19, [(2, .bool false)], [], [], 0⟩ trivial ?_
    have hret := Option.some.inj h
    subst hret
    refine AWp.le (Le.mk (s' := ⟨19, [(2, .bool false)], [], [], 0⟩) rfl rfl ⟨.refl _, trivial⟩ trivial) ?_
    refine AWp.ret ?_
    refine kR ?_
    refine tR ?_
    refine tR ?_
    refine kR ?_
    refine joinQ_ret ?_
    exact bR _ rfl ⟨rfl, rfl⟩ rfl
   ·
    replace h := ite_fb hc2 h
    refine AWp.skip ?_
    refine kN ?_
    refine tN ?_
    obtain ⟨ob1p, h⟩ := chk_some h
    have ob1 : -9223372036854775808 ≤ ((n2 : Int) + (1 : Int)) ∧ ((n2 : Int) + (1 : Int)) ≤ 9223372036854775807 := ⟨by omega, ob1p⟩
    refine q3rr [] [] [0, 3] [] ⟨19, [(0, q3aS x1), (3, .int .i64 (((n2 + 1) : Nat) : Int))], [], [], 0⟩ (an1 ob1) ?_
    rw [hC0] at h
    exact lN (_, (n2 + 1)) (Le.mk rfl rfl ⟨.refl _, .refl _, trivial⟩ trivial) h (Nat.lt_succ_self _)
  ·
   replace h := ite_fb hc1 h
   refine AWp.exit ?_
   refine tE ?_
   refine tE ?_
   refine kS ?_
   exact jN () (Le.mk rfl rfl ⟨.refl _, trivial⟩ trivial) h
 ·
  rintro ⟨⟩ h
  replace h := (congrFun hK1 _).symm.trans h
  refine q3rq [] [] [2] [] ⟨19, [(2, .bool (decide ((((x1).length : Nat) : Int) ≤ (20 : Int))))], [], [], 0⟩ trivial ?_
  have hret := Option.some.inj h
  subst hret
  refine AWp.le (Le.mk (s' := ⟨19, [(2, .bool (decide ((((x1).length : Nat) : Int) ≤ (20 : Int))))], [], [], 0⟩) rfl rfl ⟨.refl _, trivial⟩ trivial) ?_
  refine AWp.ret ?_
  exact bR _ rfl ⟨rfl, rfl⟩ rfl
def f24 (x1 : List (List UInt8)) : Option (List (List UInt8)) :=
 abc ((x1).length = 0) (
 some []
 ) (
 chk ((0 + (x1).length) * 16 ≤ 140737488355328) <|
 some ([] ++ x1)
 )
theorem f24_ok  (x1 : List (List UInt8)) (r : List (List UInt8)) (h : f24 x1 = some r)  : Spec1 Tryz.prog 24 [] [] [] [vL 1 eS [] x1] (.own 3000) [(3000, bL 9 1 eS [] r)] := by
 unfold f24 at h
 refine Spec1.body 0 _ _ Tryz.func24 rfl Tryz.ntmps24 rfl rfl ?_
 refine q3rq [] [] [0] [] ⟨8, [(0, q3aS x1)], [], [], 0⟩ trivial ?_
 refine AWp.seq ?_
 refine q3rq [] [] [0, 4] [] ⟨8, [(0, q3aS x1), (4, .abool (fun b => b = true → (x1).length = 0))], [], [], 0⟩ trivial ?_
 obtain ⟨hA1, hB1⟩ := abc_some h
 refine AWp.condAb (fun b => b = true → (x1).length = 0) (by kernel_rfl) (fun hc1 => ?_) (fun hc1 => ?_)
 ·
  have h := hA1 (hc1 rfl)
  refine q3rq [] [] [2] [] ⟨8, [(2, .nils)], [], [], 0⟩ trivial ?_
  refine AWp.le (Le.trans (Le.nilOwn 2 3000 9 1 (encF eS [] []) rfl rfl (Nat.le_of_ble_eq_true rfl)) (Le.mk (s' := ⟨8, [(2, .own 3000)], [(3000, q3bS_9 [])], [], 0⟩) rfl rfl ⟨.refl _, trivial⟩ ⟨⟨_, rfl, .refl _⟩, trivial⟩)) ?_
  have hret := Option.some.inj h
  subst hret
  refine AWp.le (Le.mk (s' := ⟨8, [(2, .own 3000)], [(3000, q3bS_9 [])], [], 0⟩) rfl rfl ⟨.refl _, trivial⟩ ⟨⟨_, rfl, .refl _⟩, trivial⟩) ?_
  refine AWp.ret ?_
  refine tR ?_
  exact bR _ rfl ⟨rfl, rfl⟩ rfl
 ·
  have h := hB1
  refine AWp.skip ?_
  refine tN ?_
  refine AWp.seq ?_
  obtain ⟨ob0, h⟩ := chk_some h
  refine q3rr [] [] [2] [5] ⟨8, [(2, .own 5)], [(5, .rows 9 1 (0 + (x1).length) (appF 0 (lstF 1 []) (encF eS [] x1)))], [], 0⟩ (an1 ob0) ?_
  refine tN ?_
  refine AWp.le (Le.mk (s' := ⟨8, [(2, .own 5)], [(5, q3bS_9 ([] ++ x1))], [], 0⟩) rfl rfl ⟨.refl _, trivial⟩ ⟨⟨_, rfl, (BLe.of (RL.app (RL.lst (enc := eS) [] rfl rfl (fun _ => rfl)) (RL.self _)))⟩, trivial⟩) ?_
  refine AWp.le (Le.trans (Le.ren (swapN 5 3000) (swapN_inv 5 3000) rfl) (Le.mk (s' := ⟨8, [(2, .own 3000)], [(3000, q3bS_9 ([] ++ x1))], [], 0⟩) rfl rfl ⟨.refl _, trivial⟩ ⟨⟨_, rfl, .refl _⟩, trivial⟩)) ?_
  have hret := Option.some.inj h
  subst hret
  refine AWp.le (Le.mk (s' := ⟨8, [(2, .own 3000)], [(3000, q3bS_9 ([] ++ x1))], [], 0⟩) rfl rfl ⟨.refl _, trivial⟩ ⟨⟨_, rfl, .refl _⟩, trivial⟩) ?_
  refine AWp.ret ?_
  exact bR _ rfl ⟨rfl, rfl⟩ rfl
def f32_L0 (x1 : List (List UInt8)) (K1 : ((List Tq0) × (List Tq1)) → Option ((List Tq0) × (List Tq1))) : Nat → (Nat × (List Tq0) × (List Tq1)) → Option ((List Tq0) × (List Tq1))
 | 0, _ => none
 | k + 1, (n3, l4, l5) =>
  if (decide ((n3 : Int) < (((x1).length : Nat) : Int))) then (
  chk ((n3 : Int) < (((x1).length : Nat) : Int)) <|
  (f28 l4 l5 (x1.getD n3 [])).bind fun (r6 : (List Tq0) × (List Tq1) × (List Tq1)) =>
  chk (((n3 : Int) + (1 : Int)) ≤ 9223372036854775807) <|
  (f32_L0 x1 K1 k) ((n3 + 1), r6.1, r6.2.1)
  ) else (
  K1 (l4, l5)
  )
def f32 (x1 : List (List UInt8)) : Option ((List Tq0) × (List Tq1)) :=
 (f17 ).bind fun (r2 : (List Tq0) × (List Tq1)) =>
 jn (fun ((l7, l8) : (List Tq0) × (List Tq1)) =>
 some (l7, l8)
 ) fun (K1 : ((List Tq0) × (List Tq1)) → Option ((List Tq0) × (List Tq1))) =>
 f32_L0 x1 K1 FUEL (0, r2.1, r2.2)
theorem f32_ok  (x1 : List (List UInt8)) (r : (List Tq0) × (List Tq1)) (h : f32 x1 = some r)  : Spec1 Tryz.prog 32 [(1, .tab .u64 Lib.pow10Tab), (2, errG), (3, errG)] [] [] [vL 1 eS [] x1] (.agg [vL 3 eSSI (default : Tq0) r.1, vL 3 eIIS (default : Tq1) r.2]) [] := by
 unfold f32 at h
 refine Spec1.bodyD [2] 0 _ _ Tryz.func32 rfl Tryz.ntmps32 rfl rfl ?_
 refine q3rq [] [] [0, 2, 1000001, 1000002, 1000003] [2] ⟨21, [(0, q3aS x1), (2, .ptr 2 0), (1000001, .tab .u64 Lib.pow10Tab), (1000002, errG), (1000003, errG)], [(2, .cells 30 [.nils, .nils])], [], 0⟩ trivial ?_
 refine AWp.seq ?_
 obtain ⟨r2, hr2, h⟩ := bind_ok h
 refine q3rr [] [(0, ⟨[], [], [], [], .agg [q3aSSI r2.1, q3aIIS r2.2], [], [], []⟩)] [0, 2, 3, 1000001, 1000002, 1000003] [2, 3] ⟨21, [(0, q3aS x1), (2, .ptr 2 0), (3, .ptr 3 0), (1000001, .tab .u64 Lib.pow10Tab), (1000002, errG), (1000003, errG)], [(2, .cells 30 [.nils, .nils]), (3, .cells 30 [q3aSSI r2.1, q3aIIS r2.2])], [], 0⟩ (an2 (cpT (f17_ok _ hr2)) trivial) ?_
 refine tN ?_
 obtain ⟨K1, hK1, h⟩ := jn_some h
 refine AWp.join (α := (List Tq0) × (List Tq1)) (fun (x : (List Tq0) × (List Tq1)) => match x with | (l7, l8) => ⟨21, [(2, .ptr 2 0), (3, .ptr 3 0), (1000001, .tab .u64 Lib.pow10Tab), (1000002, errG), (1000003, errG)], [(2, .cells 30 [.nils, .nils]), (3, .cells 30 [q3aSSI l7, q3aIIS l8])], [], 0⟩) (fun x => K1 x = some r) ?_ ?_
 ·
  refine q3rq [] [] [2, 3, 7, 8, 9, 1000001, 1000002, 1000003] [2, 3] ⟨21, [(2, .ptr 2 0), (3, .ptr 3 0), (7, q3aS x1), (8, .int .i64 (((x1).length : Nat) : Int)), (9, .int .i64 (0 : Int)), (1000001, .tab .u64 Lib.pow10Tab), (1000002, errG), (1000003, errG)], [(2, .cells 30 [.nils, .nils]), (3, .cells 30 [q3aSSI r2.1, q3aIIS r2.2])], [], 0⟩ trivial ?_
  refine AWp.block ?_
  refine AWp.loopL (α := Nat × (Nat × (List Tq0) × (List Tq1))) (fun x => match x with | (_, n3, l4, l5) => ⟨21, [(2, .ptr 2 0), (3, .ptr 3 0), (7, q3aS x1), (8, .int .i64 (((x1).length : Nat) : Int)), (9, .int .i64 (n3 : Int)), (1000001, .tab .u64 Lib.pow10Tab), (1000002, errG), (1000003, errG)], [(2, .cells 30 [.nils, .nils]), (3, .cells 30 [q3aSSI l4, q3aIIS l5])], [], 0⟩) (fun x => f32_L0 x1 K1 x.1 x.2 = some r) (fun x => x.1) (FUEL, 0, r2.1, r2.2) (Le.mk (s' := ⟨21, [(2, .ptr 2 0), (3, .ptr 3 0), (7, q3aS x1), (8, .int .i64 (((x1).length : Nat) : Int)), (9, .int .i64 (0 : Int)), (1000001, .tab .u64 Lib.pow10Tab), (1000002, errG), (1000003, errG)], [(2, .cells 30 [.nils, .nils]), (3, .cells 30 [q3aSSI r2.1, q3aIIS r2.2])], [], 0⟩) rfl rfl ⟨.refl _, .refl _, .refl _, .refl _, .refl _, .refl _, .refl _, .refl _, trivial⟩ ⟨⟨_, rfl, .refl _⟩, ⟨_, rfl, .refl _⟩, trivial⟩) h ?_
  rintro ⟨k0, n3, l4, l5⟩ h
  cases k0 with
  | zero => exact nomatch (show (none : Option ((List Tq0) × (List Tq1))) = some r from h)
  | succ k0 =>
  obtain ⟨C0, hC0⟩ : ∃ C, C = f32_L0 x1 K1 k0 := ⟨_, rfl⟩
  replace h := (f32_L0.eq_2 ..).symm.trans h
  try rw [← hC0] at h
  refine q3rq [] [] [2, 3, 7, 8, 9, 10, 1000001, 1000002, 1000003] [2, 3] ⟨21, [(2, .ptr 2 0), (3, .ptr 3 0), (7, q3aS x1), (8, .int .i64 (((x1).length : Nat) : Int)), (9, .int .i64 (n3 : Int)), (10, .bool (decide ((n3 : Int) < (((x1).length : Nat) : Int)))), (1000001, .tab .u64 Lib.pow10Tab), (1000002, errG), (1000003, errG)], [(2, .cells 30 [.nils, .nils]), (3, .cells 30 [q3aSSI l4, q3aIIS l5])], [], 0⟩ trivial ?_
  refine AWp.seq ?_
  refine AWp.cond (b := (decide ((n3 : Int) < (((x1).length : Nat) : Int)))) (by kernel_rfl) (fun hc1 => ?_) (fun hc1 => ?_)
  ·
   replace h := ite_tb hc1 h
   refine AWp.skip ?_
   refine tN ?_
   refine AWp.seq ?_
   refine AWp.block ?_
   refine AWp.seq ?_
   obtain ⟨ob0p, h⟩ := chk_some h
   have ob0 : 0 ≤ (n3 : Int) ∧ (n3 : Int) < (((x1).length : Nat) : Int) := ⟨by omega, ob0p⟩
   refine q3rr [] [] [2, 3, 5, 7, 8, 9, 1000001, 1000002, 1000003] [2, 3] ⟨21, [(2, .ptr 2 0), (3, .ptr 3 0), (5, .str (x1.getD n3 [])), (7, q3aS x1), (8, .int .i64 (((x1).length : Nat) : Int)), (9, .int .i64 (n3 : Int)), (1000001, .tab .u64 Lib.pow10Tab), (1000002, errG), (1000003, errG)], [(2, .cells 30 [.nils, .nils]), (3, .cells 30 [q3aSSI l4, q3aIIS l5])], [], 0⟩ (an1 ob0) ?_
   refine tN ?_
   obtain ⟨r6, hr6, h⟩ := bind_ok h
   refine q3rr [] [(2, ⟨[.agg [q3aSSI l4, q3aIIS l5], .str (x1.getD n3 [])], [], [], [(6001, q3bIIS_96 r6.2.2)], .tup [.agg [q3aSSI r6.1, q3aIIS r6.2.1], .own 6001], [6001], [], [1, 2, 3]⟩)] [2, 3, 7, 8, 9, 1000001, 1000002, 1000003] [2, 3] ⟨21, [(2, .ptr 2 0), (3, .ptr 3 0), (7, q3aS x1), (8, .int .i64 (((x1).length : Nat) : Int)), (9, .int .i64 (n3 : Int)), (1000001, .tab .u64 Lib.pow10Tab), (1000002, errG), (1000003, errG)], [(2, .cells 30 [.nils, .nils]), (3, .cells 30 [q3aSSI r6.1, q3aIIS r6.2.1])], [], 0⟩ (an2 (cpT (Spec1.ren (swapN 3000 6001) (swapN_inv 3000 6001) rfl (f28_ok _ _ _ _ hr6))) trivial) ?_
   refine kN ?_
   refine tN ?_
   obtain ⟨ob1p, h⟩ := chk_some h
   have ob1 : -9223372036854775808 ≤ ((n3 : Int) + (1 : Int)) ∧ ((n3 : Int) + (1 : Int)) ≤ 9223372036854775807 := ⟨by omega, ob1p⟩
   refine q3rr [] [] [2, 3, 7, 8, 9, 1000001, 1000002, 1000003] [2, 3] ⟨21, [(2, .ptr 2 0), (3, .ptr 3 0), (7, q3aS x1), (8, .int .i64 (((x1).length : Nat) : Int)), (9, .int .i64 (((n3 + 1) : Nat) : Int)), (1000001, .tab .u64 Lib.pow10Tab), (1000002, errG), (1000003, errG)], [(2, .cells 30 [.nils, .nils]), (3, .cells 30 [q3aSSI r6.1, q3aIIS r6.2.1])], [], 0⟩ (an1 ob1) ?_
   rw [hC0] at h
   exact lN (_, (n3 + 1), r6.1, r6.2.1) (Le.mk rfl rfl ⟨.refl _, .refl _, .refl _, .refl _, .refl _, .refl _, .refl _, .refl _, trivial⟩ ⟨⟨_, rfl, .refl _⟩, ⟨_, rfl, .refl _⟩, trivial⟩) h (Nat.lt_succ_self _)
  ·
   replace h := ite_fb hc1 h
   refine AWp.exit ?_
   refine tE ?_
   refine tE ?_
   refine kS ?_
   exact jN (l4, l5) (Le.mk rfl rfl ⟨.refl _, .refl _, .refl _, .refl _, .refl _, trivial⟩ ⟨⟨_, rfl, .refl _⟩, ⟨_, rfl, .refl _⟩, trivial⟩) h
 ·
  rintro ⟨l7, l8⟩ h
  replace h := (congrFun hK1 _).symm.trans h
  refine q3rq [] [] [2, 1000001, 1000002, 1000003] [2] ⟨21, [(2, .ptr 2 0), (1000001, .tab .u64 Lib.pow10Tab), (1000002, errG), (1000003, errG)], [(2, .cells 30 [q3aSSI l7, q3aIIS l8])], [], 0⟩ (an1 trivial) ?_
  have hret := Option.some.inj h
  subst hret
  refine AWp.le (Le.mk (s' := ⟨21, [(2, .ptr 2 0)], [(2, .cells 30 [q3aSSI l7, q3aIIS l8])], [], 0⟩) rfl rfl ⟨.refl _, trivial⟩ ⟨⟨_, rfl, .refl _⟩, trivial⟩) ?_
  refine AWp.ret ?_
  exact bR _ rfl ⟨rfl, rfl⟩ rfl
def f60_L0 (x3 : List (List UInt8)) (K1 : ((List Tq0) × (List Tq1)) → Option ((List Tq0) × (List Tq1))) : Nat → (Nat × (List Tq0) × (List Tq1)) → Option ((List Tq0) × (List Tq1))
 | 0, _ => none
 | k + 1, (n4, l5, l6) =>
  if (decide ((n4 : Int) < (((x3).length : Nat) : Int))) then (
  (f29 l5 l6 (x3.getD n4 [])).bind fun (r7 : (List Tq0) × (List Tq1) × (List Tq1)) =>
  chk ((n4 : Int) < (((x3).length : Nat) : Int)) <|
  chk (((n4 : Int) + (1 : Int)) ≤ 9223372036854775807) <|
  (f60_L0 x3 K1 k) ((n4 + 1), r7.1, r7.2.1)
  ) else (
  K1 (l5, l6)
  )
def f60 (x1 : List Tq0) (x2 : List Tq1) (x3 : List (List UInt8)) : Option ((List Tq0) × (List Tq1)) :=
 jn (fun ((l8, l9) : (List Tq0) × (List Tq1)) =>
 some (l8, l9)
 ) fun (K1 : ((List Tq0) × (List Tq1)) → Option ((List Tq0) × (List Tq1))) =>
 f60_L0 x3 K1 FUEL (0, x1, x2)
theorem f60_ok  (x1 : List Tq0) (x2 : List Tq1) (x3 : List (List UInt8)) (r : (List Tq0) × (List Tq1)) (h : f60 x1 x2 x3 = some r)  : Spec1 Tryz.prog 60 [] [] [] [.agg [vL 3 eSSI (default : Tq0) x1, vL 3 eIIS (default : Tq1) x2], vL 1 eS [] x3] (.agg [vL 3 eSSI (default : Tq0) r.1, vL 3 eIIS (default : Tq1) r.2]) [] := by
 unfold f60 at h
 refine Spec1.bodyD [4] 0 _ _ Tryz.func60 rfl Tryz.ntmps60 rfl rfl ?_
 refine q3rq [] [] [1, 2, 4] [2, 4] ⟨22, [(1, q3aS x3), (2, .ptr 2 0), (4, .ptr 4 0)], [(2, .cells 30 [q3aSSI x1, q3aIIS x2]), (4, .cells 30 [.nils, .nils])], [], 0⟩ trivial ?_
 obtain ⟨K1, hK1, h⟩ := jn_some h
 refine AWp.join (α := (List Tq0) × (List Tq1)) (fun (x : (List Tq0) × (List Tq1)) => match x with | (l8, l9) => ⟨22, [(2, .ptr 2 0), (4, .ptr 4 0)], [(2, .cells 30 [q3aSSI l8, q3aIIS l9]), (4, .cells 30 [.nils, .nils])], [], 0⟩) (fun x => K1 x = some r) ?_ ?_
 ·
  refine q3rq [] [] [1, 2, 4, 5] [2, 4] ⟨22, [(1, q3aS x3), (2, .ptr 2 0), (4, .ptr 4 0), (5, .int .i64 (0 : Int))], [(2, .cells 30 [q3aSSI x1, q3aIIS x2]), (4, .cells 30 [.nils, .nils])], [], 0⟩ trivial ?_
  refine AWp.block ?_
  refine AWp.loopL (α := Nat × (Nat × (List Tq0) × (List Tq1))) (fun x => match x with | (_, n4, l5, l6) => ⟨22, [(1, q3aS x3), (2, .ptr 2 0), (4, .ptr 4 0), (5, .int .i64 (n4 : Int))], [(2, .cells 30 [q3aSSI l5, q3aIIS l6]), (4, .cells 30 [.nils, .nils])], [], 0⟩) (fun x => f60_L0 x3 K1 x.1 x.2 = some r) (fun x => x.1) (FUEL, 0, x1, x2) (Le.mk (s' := ⟨22, [(1, q3aS x3), (2, .ptr 2 0), (4, .ptr 4 0), (5, .int .i64 (0 : Int))], [(2, .cells 30 [q3aSSI x1, q3aIIS x2]), (4, .cells 30 [.nils, .nils])], [], 0⟩) rfl rfl ⟨.refl _, .refl _, .refl _, .refl _, trivial⟩ ⟨⟨_, rfl, .refl _⟩, ⟨_, rfl, .refl _⟩, trivial⟩) h ?_
  rintro ⟨k0, n4, l5, l6⟩ h
  cases k0 with
  | zero => exact nomatch (show (none : Option ((List Tq0) × (List Tq1))) = some r from h)
  | succ k0 =>
  obtain ⟨C0, hC0⟩ : ∃ C, C = f60_L0 x3 K1 k0 := ⟨_, rfl⟩
  replace h := (f60_L0.eq_2 ..).symm.trans h
  try rw [← hC0] at h
  refine AWp.seq ?_
  refine q3rq [] [] [1, 2, 4, 5, 9] [2, 4] ⟨22, [(1, q3aS x3), (2, .ptr 2 0), (4, .ptr 4 0), (5, .int .i64 (n4 : Int)), (9, .bool (decide ((n4 : Int) < (((x3).length : Nat) : Int))))], [(2, .cells 30 [q3aSSI l5, q3aIIS l6]), (4, .cells 30 [.nils, .nils])], [], 0⟩ trivial ?_
  refine AWp.cond (b := (decide ((n4 : Int) < (((x3).length : Nat) : Int)))) (by kernel_rfl) (fun hc1 => ?_) (fun hc1 => ?_)
  ·
   replace h := ite_tb hc1 h
   refine AWp.skip ?_
   refine tN ?_
   refine AWp.seq ?_
   refine AWp.block ?_
   obtain ⟨r7, hr7, h⟩ := bind_ok h
   obtain ⟨ob0p, h⟩ := chk_some h
   have ob0 : 0 ≤ (n4 : Int) ∧ (n4 : Int) < (((x3).length : Nat) : Int) := ⟨by omega, ob0p⟩
   refine q3rr [] [(5, ⟨[.agg [q3aSSI l5, q3aIIS l6], .str (x3.getD n4 [])], [], [], [(6001, q3bIIS_96 r7.2.2)], .tup [.agg [q3aSSI r7.1, q3aIIS r7.2.1], .own 6001], [6001], [], []⟩)] [1, 2, 4, 5] [2, 4] ⟨22, [(1, q3aS x3), (2, .ptr 2 0), (4, .ptr 4 0), (5, .int .i64 (n4 : Int))], [(2, .cells 30 [q3aSSI r7.1, q3aIIS r7.2.1]), (4, .cells 30 [.nils, .nils])], [], 0⟩ (an3 ob0 (cpT (Spec1.ren (swapN 3000 6001) (swapN_inv 3000 6001) rfl (f29_ok _ _ _ _ hr7))) trivial) ?_
   refine kN ?_
   refine tN ?_
   obtain ⟨ob1p, h⟩ := chk_some h
   have ob1 : -9223372036854775808 ≤ ((n4 : Int) + (1 : Int)) ∧ ((n4 : Int) + (1 : Int)) ≤ 9223372036854775807 := ⟨by omega, ob1p⟩
   refine q3rr [] [] [1, 2, 4, 5] [2, 4] ⟨22, [(1, q3aS x3), (2, .ptr 2 0), (4, .ptr 4 0), (5, .int .i64 (((n4 + 1) : Nat) : Int))], [(2, .cells 30 [q3aSSI r7.1, q3aIIS r7.2.1]), (4, .cells 30 [.nils, .nils])], [], 0⟩ (an1 ob1) ?_
   rw [hC0] at h
   exact lN (_, (n4 + 1), r7.1, r7.2.1) (Le.mk rfl rfl ⟨.refl _, .refl _, .refl _, .refl _, trivial⟩ ⟨⟨_, rfl, .refl _⟩, ⟨_, rfl, .refl _⟩, trivial⟩) h (Nat.lt_succ_self _)
  ·
   replace h := ite_fb hc1 h
   refine AWp.exit ?_
   refine tE ?_
   refine tE ?_
   refine kS ?_
   exact jN (l5, l6) (Le.mk rfl rfl ⟨.refl _, .refl _, trivial⟩ ⟨⟨_, rfl, .refl _⟩, ⟨_, rfl, .refl _⟩, trivial⟩) h
 ·
  rintro ⟨l8, l9⟩ h
  replace h := (congrFun hK1 _).symm.trans h
  refine q3rq [] [] [4] [4] ⟨22, [(4, .ptr 4 0)], [(4, .cells 30 [q3aSSI l8, q3aIIS l9])], [], 0⟩ (an1 trivial) ?_
  have hret := Option.some.inj h
  subst hret
  refine AWp.le (Le.mk (s' := ⟨22, [(4, .ptr 4 0)], [(4, .cells 30 [q3aSSI l8, q3aIIS l9])], [], 0⟩) rfl rfl ⟨.refl _, trivial⟩ ⟨⟨_, rfl, .refl _⟩, trivial⟩) ?_
  refine AWp.ret ?_
  exact bR _ rfl ⟨rfl, rfl⟩ rfl
def f33 (x1 : List (List UInt8)) : Option ((List Tq0) × (List Tq1)) :=
 (f60 [] [] x1).bind fun (r2 : (List Tq0) × (List Tq1)) =>
 some (r2.1, r2.2)
theorem f33_ok  (x1 : List (List UInt8)) (r : (List Tq0) × (List Tq1)) (h : f33 x1 = some r)  : Spec1 Tryz.prog 33 [] [] [] [vL 1 eS [] x1] (.agg [vL 3 eSSI (default : Tq0) r.1, vL 3 eIIS (default : Tq1) r.2]) [] := by
 unfold f33 at h
 refine Spec1.bodyD [2] 0 _ _ Tryz.func33 rfl Tryz.ntmps33 rfl rfl ?_
 refine q3rq [] [] [0, 2] [2] ⟨6, [(0, q3aS x1), (2, .ptr 2 0)], [(2, .cells 30 [.nils, .nils])], [], 0⟩ trivial ?_
 refine AWp.seq ?_
 obtain ⟨r2, hr2, h⟩ := bind_ok h
 refine q3rr [] [(2, ⟨[.agg [q3aSSI [], q3aIIS []], q3aS x1], [], [], [], .agg [q3aSSI r2.1, q3aIIS r2.2], [], [], []⟩)] [2] [2] ⟨6, [(2, .ptr 2 0)], [(2, .cells 30 [q3aSSI r2.1, q3aIIS r2.2])], [], 0⟩ (an2 (cpL (c := true) [] [] [.agg [.nils, .nils], q3aS x1] (fun _ => (f60_ok _ _ _ _ hr2)) (fun _ => ⟨(.aggs ⟨.nilL, .nilL, trivial⟩), .refl _, trivial⟩) (.inl rfl)) trivial) ?_
 refine tN ?_
 have hret := Option.some.inj h
 subst hret
 refine AWp.le (Le.mk (s' := ⟨6, [(2, .ptr 2 0)], [(2, .cells 30 [q3aSSI r2.1, q3aIIS r2.2])], [], 0⟩) rfl rfl ⟨.refl _, trivial⟩ ⟨⟨_, rfl, .refl _⟩, trivial⟩) ?_
 refine AWp.ret ?_
 exact bR _ rfl ⟨rfl, rfl⟩ rfl
def f8_L0 (x1 : List (List UInt8)) (x2 : Int) (K1 : ((List Tq0) × (List Tq1)) → Option Bool) : Nat → (Nat × (List Tq0) × (List Tq1)) → Option Bool
 | 0, _ => none
 | k + 1, (n10, l11, l12) =>
  if (decide ((n10 : Int) < ((((x1).length - ((x2 % ((((x1).length + 1) : Nat) : Int))).toNat) : Nat) : Int))) then (
  chk ((n10 : Int) < ((((x1.drop (((x2 % ((((x1).length + 1) : Nat) : Int))).toNat))).length : Nat) : Int)) <|
  (f28 l11 l12 ((x1.drop (((x2 % ((((x1).length + 1) : Nat) : Int))).toNat)).getD n10 [])).bind fun (r13 : (List Tq0) × (List Tq1) × (List Tq1)) =>
  chk (((n10 : Int) + (1 : Int)) ≤ 9223372036854775807) <|
  (f8_L0 x1 x2 K1 k) ((n10 + 1), r13.1, r13.2.1)
  ) else (
  K1 (l11, l12)
  )
def f8 (x1 : List (List UInt8)) (x2 : Int) : Option Bool :=
 (f9 ).bind fun (r3 : Bool) =>
 optc ((!r3) == false) (f31 x1) fun (r4 : Bool) =>
 if ((!r3) || (!r4)) then (
 (f9 ).bind fun (r5 : Bool) =>
 some r5
 ) else (
 (f24 x1).bind fun (r6 : List (List UInt8)) =>
 (f32 r6).bind fun (r7 : (List Tq0) × (List Tq1)) =>
 chk (-9223372036854775808 ≤ x2 ∧ x2 ≤ 9223372036854775807) <|
 chk (((((x1).length : Nat) : Int) + (1 : Int)) ≤ 9223372036854775807) <|
 chk (0 ≤ x2 ∧ 1 ≤ ((((x1).length + 1) : Nat) : Int)) <|
 (f24 (x1.take (((x2 % ((((x1).length + 1) : Nat) : Int))).toNat))).bind fun (r8 : List (List UInt8)) =>
 (f32 r8).bind fun (r9 : (List Tq0) × (List Tq1)) =>
 chk (0 ≤ (x2 % ((((x1).length + 1) : Nat) : Int)) ∧ (x2 % ((((x1).length + 1) : Nat) : Int)) ≤ (((x1).length : Nat) : Int)) <|
 jn (fun ((l14, l15) : (List Tq0) × (List Tq1)) =>
 (f33 x1).bind fun (r16 : (List Tq0) × (List Tq1)) =>
 (f14 r7.1 r7.2 r16.1 r16.2).bind fun (r17 : Bool) =>
 optc (r17 == true) (f14 l14 l15 r7.1 r7.2) fun (r18 : Bool) =>
 some (r17 && r18)
 ) fun (K1 : ((List Tq0) × (List Tq1)) → Option Bool) =>
 chk (0 ≤ (x2 % ((((x1).length + 1) : Nat) : Int)) ∧ (x2 % ((((x1).length + 1) : Nat) : Int)) ≤ (((x1).length : Nat) : Int)) <|
 f8_L0 x1 x2 K1 FUEL (0, r9.1, r9.2)
 )
theorem f8_ok  (x1 : List (List UInt8)) (x2 : Int) (r : Bool) (h : f8 x1 x2 = some r)  : Spec1 Tryz.prog 8 [(1, .tab .u64 Lib.pow10Tab), (2, errG), (3, errG)] [] [] [vL 1 eS [] x1, .int .u8 x2] (.bool r) [] := by
 unfold f8 at h
 refine Spec1.body 0 _ _ Tryz.func8 rfl Tryz.ntmps8 rfl rfl ?_
 refine q3rq [] [] [0, 1, 1000001, 1000002, 1000003] [] ⟨56, [(0, q3aS x1), (1, .int .u8 x2), (1000001, .tab .u64 Lib.pow10Tab), (1000002, errG), (1000003, errG)], [], [], 0⟩ trivial ?_
 refine AWp.seq ?_
 refine AWp.seq ?_
 obtain ⟨r3, hr3, h⟩ := bind_ok h
 obtain ⟨r4, hr4, h⟩ := optc_some h
 have ob0 := idA (((!r3) == false) = true)
 have ob1 := ob0
 have ob2 := bqA (!r3) false
 refine q3rr [] [(0, ⟨[], [], [], [], .bool r3, [], [], [1]⟩), (4, ⟨[q3aS x1], [], [], [], .bool r4, [], [], []⟩)] [0, 1, 16, 1000001, 1000002, 1000003] [] ⟨56, [(0, q3aS x1), (1, .int .u8 x2), (16, .bool ((!r3) || (!r4))), (1000001, .tab .u64 Lib.pow10Tab), (1000002, errG), (1000003, errG)], [], [], 0⟩ (an4 (cpT (f9_ok _ hr3)) (And.intro (cpC fun hc => (f31_ok _ _ (hr4 hc))) (an1 ob0)) (an1 ob1) ob2) ?_
 refine tN ?_
 refine AWp.cond (b := ((!r3) || (!r4))) (by kernel_rfl) (fun hc1 => ?_) (fun hc1 => ?_)
 ·
  replace h := ite_tb hc1 h
  refine AWp.seq ?_
  obtain ⟨r5, hr5, h⟩ := bind_ok h
  refine q3rr [] [(0, ⟨[], [], [], [], .bool r5, [], [], [1]⟩)] [4, 1000001, 1000002, 1000003] [] ⟨56, [(4, .bool r5), (1000001, .tab .u64 Lib.pow10Tab), (1000002, errG), (1000003, errG)], [], [], 0⟩ (an1 (cpT (f9_ok _ hr5))) ?_
  refine tN ?_
  have hret := Option.some.inj h
  subst hret
  refine AWp.le (Le.mk (s' := ⟨56, [(4, .bool r5)], [], [], 0⟩) rfl rfl ⟨.refl _, trivial⟩ trivial) ?_
  refine AWp.ret ?_
  refine tR ?_
  exact bR _ rfl ⟨rfl, rfl⟩ rfl
 ·
  replace h := ite_fb hc1 h
  refine AWp.skip ?_
  refine tN ?_
  refine AWp.seq ?_
  obtain ⟨r6, hr6, h⟩ := bind_ok h
  obtain ⟨r7, hr7, h⟩ := bind_ok h
  refine q3rr [] [(1, ⟨[q3aS x1], [], [], [(6001, q3bS_9 r6)], .own 6001, [6001], [], []⟩), (2, ⟨[.own 6001], [6001], [], [], .agg [q3aSSI r7.1, q3aIIS r7.2], [], [], [1, 2, 3]⟩)] [0, 1, 5, 1000001, 1000002, 1000003] [5] ⟨56, [(0, q3aS x1), (1, .int .u8 x2), (5, .ptr 5 0), (1000001, .tab .u64 Lib.pow10Tab), (1000002, errG), (1000003, errG)], [(5, .cells 30 [q3aSSI r7.1, q3aIIS r7.2])], [], 0⟩ (an3 (cpT (Spec1.ren (swapN 3000 6001) (swapN_inv 3000 6001) rfl (f24_ok _ _ hr6))) (show (callP Tryz.prog true 32 [(1, .tab .u64 Lib.pow10Tab), (2, errG), (3, errG)] [] [(6001, q3bS_9 r6)] [] [] [.own 6001] [.own 6001] (.agg [q3aSSI r7.1, q3aIIS r7.2]) []) from ⟨fun _ => (Spec1.pre (f32_ok _ _ hr7) rfl rfl rfl (Le.trans (Le.freeze 6001 rfl rfl) (Le.mk (s' := ⟨1, [(0, q3aS r6), (1000001, .tab .u64 Lib.pow10Tab), (1000002, errG), (1000003, errG)], [], [], 0⟩) rfl rfl ⟨.refl _, .refl _, .refl _, .refl _, trivial⟩ trivial))), fun _ => ⟨.refl _, trivial⟩, .inl rfl⟩) trivial) ?_
  refine tN ?_
  refine AWp.seq ?_
  obtain ⟨ob3, h⟩ := chk_some h
  obtain ⟨ob4p, h⟩ := chk_some h
  have ob4 : -9223372036854775808 ≤ ((((x1).length : Nat) : Int) + (1 : Int)) ∧ ((((x1).length : Nat) : Int) + (1 : Int)) ≤ 9223372036854775807 := ⟨by omega, ob4p⟩
  obtain ⟨ob5, h⟩ := chk_some h
  refine q3rr [] [] [0, 5, 6, 1000001, 1000002, 1000003] [5] ⟨56, [(0, q3aS x1), (5, .ptr 5 0), (6, .int .i64 (x2 % ((((x1).length + 1) : Nat) : Int))), (1000001, .tab .u64 Lib.pow10Tab), (1000002, errG), (1000003, errG)], [(5, .cells 30 [q3aSSI r7.1, q3aIIS r7.2])], [], 0⟩ (an3 ob3 ob4 ob5) ?_
  refine tN ?_
  refine AWp.seq ?_
  obtain ⟨r8, hr8, h⟩ := bind_ok h
  obtain ⟨r9, hr9, h⟩ := bind_ok h
  obtain ⟨ob6, h⟩ := chk_some h
  refine q3rr [] [(3, ⟨[q3aS (x1.take (((x2 % ((((x1).length + 1) : Nat) : Int))).toNat))], [], [], [(6002, q3bS_9 r8)], .own 6002, [6002], [], []⟩), (4, ⟨[.own 6002], [6002], [], [], .agg [q3aSSI r9.1, q3aIIS r9.2], [], [], [1, 2, 3]⟩)] [0, 5, 6, 7, 1000001, 1000002, 1000003] [5, 7] ⟨56, [(0, q3aS x1), (5, .ptr 5 0), (6, .int .i64 (x2 % ((((x1).length + 1) : Nat) : Int))), (7, .ptr 7 0), (1000001, .tab .u64 Lib.pow10Tab), (1000002, errG), (1000003, errG)], [(5, .cells 30 [q3aSSI r7.1, q3aIIS r7.2]), (7, .cells 30 [q3aSSI r9.1, q3aIIS r9.2])], [], 0⟩ (an4 ob6 (cpL (c := true) [] [] [.arr 1 (((x2 % ((((x1).length + 1) : Nat) : Int))).toNat) (encF eS [] x1)] (fun _ => (Spec1.ren (swapN 3000 6002) (swapN_inv 3000 6002) rfl (f24_ok _ _ hr8))) (fun _ => ⟨(VLe.takeL (by first | omega | (simp only [List.length_append, List.length_cons, List.length_nil, List.length_take, List.length_drop] at *; omega) | (simp; done) | (simp_all; done) | (simp_all; omega) | rfl)), trivial⟩) (.inl rfl)) (show (callP Tryz.prog true 32 [(1, .tab .u64 Lib.pow10Tab), (2, errG), (3, errG)] [] [(6002, q3bS_9 r8)] [] [] [.own 6002] [.own 6002] (.agg [q3aSSI r9.1, q3aIIS r9.2]) []) from ⟨fun _ => (Spec1.pre (f32_ok _ _ hr9) rfl rfl rfl (Le.trans (Le.freeze 6002 rfl rfl) (Le.mk (s' := ⟨1, [(0, q3aS r8), (1000001, .tab .u64 Lib.pow10Tab), (1000002, errG), (1000003, errG)], [], [], 0⟩) rfl rfl ⟨.refl _, .refl _, .refl _, .refl _, trivial⟩ trivial))), fun _ => ⟨.refl _, trivial⟩, .inl rfl⟩) trivial) ?_
  refine tN ?_
  obtain ⟨K1, hK1, h⟩ := jn_some h
  refine AWp.join (α := (List Tq0) × (List Tq1)) (fun (x : (List Tq0) × (List Tq1)) => match x with | (l14, l15) => ⟨56, [(0, q3aS x1), (5, .ptr 5 0), (7, .ptr 7 0), (1000001, .tab .u64 Lib.pow10Tab), (1000002, errG), (1000003, errG)], [(5, .cells 30 [q3aSSI r7.1, q3aIIS r7.2]), (7, .cells 30 [q3aSSI l14, q3aIIS l15])], [], 0⟩) (fun x => K1 x = some r) ?_ ?_
  ·
   refine AWp.seq ?_
   obtain ⟨ob7, h⟩ := chk_some h
   refine q3rr [] [] [0, 5, 7, 34, 35, 36, 1000001, 1000002, 1000003] [5, 7] ⟨56, [(0, q3aS x1), (5, .ptr 5 0), (7, .ptr 7 0), (34, .arr 1 ((x1).length - ((x2 % ((((x1).length + 1) : Nat) : Int))).toNat) (fun i j => (encF eS [] x1) (i + (((x2 % ((((x1).length + 1) : Nat) : Int))).toNat)) j)), (35, .int .i64 ((((x1).length - ((x2 % ((((x1).length + 1) : Nat) : Int))).toNat) : Nat) : Int)), (36, .int .i64 (0 : Int)), (1000001, .tab .u64 Lib.pow10Tab), (1000002, errG), (1000003, errG)], [(5, .cells 30 [q3aSSI r7.1, q3aIIS r7.2]), (7, .cells 30 [q3aSSI r9.1, q3aIIS r9.2])], [], 0⟩ (an1 ob7) ?_
   refine tN ?_
   refine AWp.le (Le.mk (s' := ⟨56, [(0, q3aS x1), (5, .ptr 5 0), (7, .ptr 7 0), (34, q3aS (x1.drop (((x2 % ((((x1).length + 1) : Nat) : Int))).toNat))), (35, .int .i64 ((((x1).length - ((x2 % ((((x1).length + 1) : Nat) : Int))).toNat) : Nat) : Int)), (36, .int .i64 (0 : Int)), (1000001, .tab .u64 Lib.pow10Tab), (1000002, errG), (1000003, errG)], [(5, .cells 30 [q3aSSI r7.1, q3aIIS r7.2]), (7, .cells 30 [q3aSSI r9.1, q3aIIS r9.2])], [], 0⟩) rfl rfl ⟨.refl _, .refl _, .refl _, VLe.dropL, .refl _, .refl _, .refl _, .refl _, .refl _, trivial⟩ ⟨⟨_, rfl, .refl _⟩, ⟨_, rfl, .refl _⟩, trivial⟩) ?_
   refine AWp.block ?_
   refine AWp.loopL (α := Nat × (Nat × (List Tq0) × (List Tq1))) (fun x => match x with | (_, n10, l11, l12) => ⟨56, [(0, q3aS x1), (5, .ptr 5 0), (7, .ptr 7 0), (34, q3aS (x1.drop (((x2 % ((((x1).length + 1) : Nat) : Int))).toNat))), (35, .int .i64 ((((x1).length - ((x2 % ((((x1).length + 1) : Nat) : Int))).toNat) : Nat) : Int)), (36, .int .i64 (n10 : Int)), (1000001, .tab .u64 Lib.pow10Tab), (1000002, errG), (1000003, errG)], [(5, .cells 30 [q3aSSI r7.1, q3aIIS r7.2]), (7, .cells 30 [q3aSSI l11, q3aIIS l12])], [], 0⟩) (fun x => f8_L0 x1 x2 K1 x.1 x.2 = some r) (fun x => x.1) (FUEL, 0, r9.1, r9.2) (Le.mk (s' := ⟨56, [(0, q3aS x1), (5, .ptr 5 0), (7, .ptr 7 0), (34, q3aS (x1.drop (((x2 % ((((x1).length + 1) : Nat) : Int))).toNat))), (35, .int .i64 ((((x1).length - ((x2 % ((((x1).length + 1) : Nat) : Int))).toNat) : Nat) : Int)), (36, .int .i64 (0 : Int)), (1000001, .tab .u64 Lib.pow10Tab), (1000002, errG), (1000003, errG)], [(5, .cells 30 [q3aSSI r7.1, q3aIIS r7.2]), (7, .cells 30 [q3aSSI r9.1, q3aIIS r9.2])], [], 0⟩) rfl rfl ⟨.refl _, .refl _, .refl _, .refl _, .refl _, .refl _, .refl _, .refl _, .refl _, trivial⟩ ⟨⟨_, rfl, .refl _⟩, ⟨_, rfl, .refl _⟩, trivial⟩) h ?_
   rintro ⟨k0, n10, l11, l12⟩ h
   cases k0 with
   | zero => exact nomatch (show (none : Option Bool) = some r from h)
   | succ k0 =>
   obtain ⟨C0, hC0⟩ : ∃ C, C = f8_L0 x1 x2 K1 k0 := ⟨_, rfl⟩
   replace h := (f8_L0.eq_2 ..).symm.trans h
   try rw [← hC0] at h
   refine q3rq [] [] [0, 5, 7, 34, 35, 36, 37, 1000001, 1000002, 1000003] [5, 7] ⟨56, [(0, q3aS x1), (5, .ptr 5 0), (7, .ptr 7 0), (34, q3aS (x1.drop (((x2 % ((((x1).length + 1) : Nat) : Int))).toNat))), (35, .int .i64 ((((x1).length - ((x2 % ((((x1).length + 1) : Nat) : Int))).toNat) : Nat) : Int)), (36, .int .i64 (n10 : Int)), (37, .bool (decide ((n10 : Int) < ((((x1).length - ((x2 % ((((x1).length + 1) : Nat) : Int))).toNat) : Nat) : Int)))), (1000001, .tab .u64 Lib.pow10Tab), (1000002, errG), (1000003, errG)], [(5, .cells 30 [q3aSSI r7.1, q3aIIS r7.2]), (7, .cells 30 [q3aSSI l11, q3aIIS l12])], [], 0⟩ trivial ?_
   refine AWp.seq ?_
   refine AWp.cond (b := (decide ((n10 : Int) < ((((x1).length - ((x2 % ((((x1).length + 1) : Nat) : Int))).toNat) : Nat) : Int)))) (by kernel_rfl) (fun hc2 => ?_) (fun hc2 => ?_)
   ·
    replace h := ite_tb hc2 h
    refine AWp.skip ?_
    refine tN ?_
    refine AWp.seq ?_
    refine AWp.block ?_
    refine AWp.seq ?_
    obtain ⟨ob8p, h⟩ := chk_some h
    have ob8 : 0 ≤ (n10 : Int) ∧ (n10 : Int) < ((((x1.drop (((x2 % ((((x1).length + 1) : Nat) : Int))).toNat))).length : Nat) : Int) := ⟨by omega, ob8p⟩
    refine q3rr [] [] [0, 5, 7, 9, 34, 35, 36, 1000001, 1000002, 1000003] [5, 7] ⟨56, [(0, q3aS x1), (5, .ptr 5 0), (7, .ptr 7 0), (9, .str ((x1.drop (((x2 % ((((x1).length + 1) : Nat) : Int))).toNat)).getD n10 [])), (34, q3aS (x1.drop (((x2 % ((((x1).length + 1) : Nat) : Int))).toNat))), (35, .int .i64 ((((x1).length - ((x2 % ((((x1).length + 1) : Nat) : Int))).toNat) : Nat) : Int)), (36, .int .i64 (n10 : Int)), (1000001, .tab .u64 Lib.pow10Tab), (1000002, errG), (1000003, errG)], [(5, .cells 30 [q3aSSI r7.1, q3aIIS r7.2]), (7, .cells 30 [q3aSSI l11, q3aIIS l12])], [], 0⟩ (an1 ob8) ?_
    refine tN ?_
    obtain ⟨r13, hr13, h⟩ := bind_ok h
    refine q3rr [] [(2, ⟨[.agg [q3aSSI l11, q3aIIS l12], .str ((x1.drop (((x2 % ((((x1).length + 1) : Nat) : Int))).toNat)).getD n10 [])], [], [], [(6003, q3bIIS_96 r13.2.2)], .tup [.agg [q3aSSI r13.1, q3aIIS r13.2.1], .own 6003], [6003], [], [1, 2, 3]⟩)] [0, 5, 7, 34, 35, 36, 1000001, 1000002, 1000003] [5, 7] ⟨56, [(0, q3aS x1), (5, .ptr 5 0), (7, .ptr 7 0), (34, q3aS (x1.drop (((x2 % ((((x1).length + 1) : Nat) : Int))).toNat))), (35, .int .i64 ((((x1).length - ((x2 % ((((x1).length + 1) : Nat) : Int))).toNat) : Nat) : Int)), (36, .int .i64 (n10 : Int)), (1000001, .tab .u64 Lib.pow10Tab), (1000002, errG), (1000003, errG)], [(5, .cells 30 [q3aSSI r7.1, q3aIIS r7.2]), (7, .cells 30 [q3aSSI r13.1, q3aIIS r13.2.1])], [], 0⟩ (an2 (cpT (Spec1.ren (swapN 3000 6003) (swapN_inv 3000 6003) rfl (f28_ok _ _ _ _ hr13))) trivial) ?_
    refine kN ?_
    refine tN ?_
    obtain ⟨ob9p, h⟩ := chk_some h
    have ob9 : -9223372036854775808 ≤ ((n10 : Int) + (1 : Int)) ∧ ((n10 : Int) + (1 : Int)) ≤ 9223372036854775807 := ⟨by omega, ob9p⟩
    refine q3rr [] [] [0, 5, 7, 34, 35, 36, 1000001, 1000002, 1000003] [5, 7] ⟨56, [(0, q3aS x1), (5, .ptr 5 0), (7, .ptr 7 0), (34, q3aS (x1.drop (((x2 % ((((x1).length + 1) : Nat) : Int))).toNat))), (35, .int .i64 ((((x1).length - ((x2 % ((((x1).length + 1) : Nat) : Int))).toNat) : Nat) : Int)), (36, .int .i64 (((n10 + 1) : Nat) : Int)), (1000001, .tab .u64 Lib.pow10Tab), (1000002, errG), (1000003, errG)], [(5, .cells 30 [q3aSSI r7.1, q3aIIS r7.2]), (7, .cells 30 [q3aSSI r13.1, q3aIIS r13.2.1])], [], 0⟩ (an1 ob9) ?_
    rw [hC0] at h
    exact lN (_, (n10 + 1), r13.1, r13.2.1) (Le.mk rfl rfl ⟨.refl _, .refl _, .refl _, .refl _, .refl _, .refl _, .refl _, .refl _, .refl _, trivial⟩ ⟨⟨_, rfl, .refl _⟩, ⟨_, rfl, .refl _⟩, trivial⟩) h (Nat.lt_succ_self _)
   ·
    replace h := ite_fb hc2 h
    refine AWp.exit ?_
    refine tE ?_
    refine tE ?_
    refine kS ?_
    exact jN (l11, l12) (Le.mk rfl rfl ⟨.refl _, .refl _, .refl _, .refl _, .refl _, .refl _, trivial⟩ ⟨⟨_, rfl, .refl _⟩, ⟨_, rfl, .refl _⟩, trivial⟩) h
  ·
   rintro ⟨l14, l15⟩ h
   replace h := (congrFun hK1 _).symm.trans h
   refine AWp.seq ?_
   obtain ⟨r16, hr16, h⟩ := bind_ok h
   obtain ⟨r17, hr17, h⟩ := bind_ok h
   obtain ⟨r18, hr18, h⟩ := optc_some h
   have ob10 := idA ((r17 == true) = true)
   have ob11 := ob10
   have ob12 := bqA (r17) true
   refine q3rr [] [(2, ⟨[q3aS x1], [], [], [], .agg [q3aSSI r16.1, q3aIIS r16.2], [], [], []⟩), (3, ⟨[.agg [q3aSSI r7.1, q3aIIS r7.2], .agg [q3aSSI r16.1, q3aIIS r16.2]], [], [], [], .bool r17, [], [], []⟩), (7, ⟨[.agg [q3aSSI l14, q3aIIS l15], .agg [q3aSSI r7.1, q3aIIS r7.2]], [], [], [], .bool r18, [], [], []⟩)] [4, 1000001, 1000002, 1000003] [] ⟨56, [(4, .bool (r17 && r18)), (1000001, .tab .u64 Lib.pow10Tab), (1000002, errG), (1000003, errG)], [], [], 0⟩ (an4 (cpT (f33_ok _ _ hr16)) (cpT (f14_ok _ _ _ _ _ hr17)) (And.intro (cpC fun hc => (f14_ok _ _ _ _ _ (hr18 hc))) (an2 ob10 ob11)) ob12) ?_
   refine tN ?_
   have hret := Option.some.inj h
   subst hret
   refine AWp.le (Le.mk (s' := ⟨56, [(4, .bool (r17 && r18))], [], [], 0⟩) rfl rfl ⟨.refl _, trivial⟩ trivial) ?_
   refine AWp.ret ?_
   exact bR _ rfl ⟨rfl, rfl⟩ rfl
end Go.Abs
