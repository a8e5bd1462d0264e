/- Part 24 of the proof: X54k, Pl, Map54, MonD54. -/
import Derived.Test.YtfkhgbcggabkjaaGreatDoorMoncomZ23
namespace Go.Abs
open Go Go.Proofs
set_option maxRecDepth 100000
set_option maxHeartbeats 4000000
def f112 (x1 : List UInt8) (x2 : Int) : Option Tq0 :=
 if (x1 == []) then (
 some ((0 : Int), (0 : Int))
 ) else (
 chk ((0 : Int) < ((x1.length : Nat) : Int)) <|
 chk ((((x1.getD 0 0).toNat : Nat) : Int) ≤ 9223372036854775807) <|
 jn (fun ((i3, n4) : Int × Nat) =>
 if (decide (i3 > x2)) then (
 some ((0 : Int), (0 : Int))
 ) else (
 some (i3, (n4 : Int))
 )
 ) fun (K1 : (Int × Nat) → Option Tq0) =>
 if (decide ((((x1.getD 0 0).toNat : Nat) : Int) ≥ (128 : Int))) then (
 chk (((decide (((x1.length : Nat) : Int) < (2 : Int))) == false) = true → 0 ≤ (1 : Int) ∧ (1 : Int) < ((x1.length : Nat) : Int)) <|
 chk ((((decide (((x1.length : Nat) : Int) < (2 : Int))) || ((((x1.getD 1 0).toNat : Nat) : Int) == (0 : Int))) == false) = true → 0 ≤ (1 : Int) ∧ (1 : Int) < ((x1.length : Nat) : Int)) <|
 if (((decide (((x1.length : Nat) : Int) < (2 : Int))) || ((((x1.getD 1 0).toNat : Nat) : Int) == (0 : Int))) || (decide ((((x1.getD 1 0).toNat : Nat) : Int) ≥ (128 : Int)))) then (
 some ((0 : Int), (0 : Int))
 ) else (
 chk (-9223372036854775808 ≤ ((((x1.getD 0 0).toNat : Nat) : Int) - (128 : Int)) ∧ ((((x1.getD 0 0).toNat : Nat) : Int) - (128 : Int)) ≤ 9223372036854775807) <|
 chk ((1 : Int) < ((x1.length : Nat) : Int)) <|
 chk ((((x1.getD 1 0).toNat : Nat) : Int) ≤ 9223372036854775807) <|
 chk (-9223372036854775808 ≤ ((128 : Int) * (((x1.getD 1 0).toNat : Nat) : Int)) ∧ ((128 : Int) * (((x1.getD 1 0).toNat : Nat) : Int)) ≤ 9223372036854775807) <|
 chk (-9223372036854775808 ≤ (((((x1.getD 0 0).toNat : Nat) : Int) - (128 : Int)) + (((128 * (x1.getD 1 0).toNat) : Nat) : Int)) ∧ (((((x1.getD 0 0).toNat : Nat) : Int) - (128 : Int)) + (((128 * (x1.getD 1 0).toNat) : Nat) : Int)) ≤ 9223372036854775807) <|
 K1 ((((((x1.getD 0 0).toNat : Nat) : Int) - (128 : Int)) + (((128 * (x1.getD 1 0).toNat) : Nat) : Int)), 2)
 )
 ) else (
 K1 ((((x1.getD 0 0).toNat : Nat) : Int), 1)
 )
 )
theorem f112_ok  (x1 : List UInt8) (x2 : Int) (r : Tq0) (h : f112 x1 x2 = some r)  : Spec1 Tryz.prog 112 [] [] [] [.str x1, .int .i64 x2] (.tup [.int .i64 r.1, .int .i64 r.2]) [] := by
 unfold f112 at h
 refine Spec1.body 0 _ _ Tryz.func112 rfl Tryz.ntmps112 rfl rfl ?_
 refine q1rq [] [] ⟨40, [(0, .str x1), (1, .i x2)], [], [], 0⟩ trivial ?_
 refine AWp.seq ?_
 refine q1rq [] [] ⟨40, [(0, .str x1), (1, .i x2), (9, .bool (x1 == []))], [], [], 0⟩ trivial ?_
 refine AWp.cond (b := (x1 == [])) (by kernel_rfl) (fun hc1 => ?_) (fun hc1 => ?_)
 ·
  replace h := ite_tb hc1 h
  refine q1rq [] [] ⟨40, (f112z0), [], [], 0⟩ trivial ?_
  have hret := Option.some.inj h
  subst hret
  refine AWp.le (Le.mk (s' := ⟨40, (f112z0), [], [], 0⟩) rfl rfl ⟨.refl _, .refl _, trivial⟩ trivial) ?_
  refine AWp.ret ?_
  refine tR ?_
  exact bR _ rfl ⟨rfl, rfl⟩ rfl
 ·
  replace h := ite_fb hc1 h
  refine AWp.skip ?_
  refine tN ?_
  refine AWp.seq ?_
  obtain ⟨ob0p, h⟩ := chk_some h
  have ob0 : 0 ≤ (0 : Int) ∧ (0 : Int) < ((x1.length : Nat) : Int) := ⟨by omega, ob0p⟩
  obtain ⟨ob1p, h⟩ := chk_some h
  have ob1 : -9223372036854775808 ≤ (((x1.getD 0 0).toNat : Nat) : Int) ∧ (((x1.getD 0 0).toNat : Nat) : Int) ≤ 9223372036854775807 := ⟨by omega, ob1p⟩
  refine q1rr [] [] ⟨40, [(0, .str x1), (1, .i x2), (6, .i (((x1.getD 0 0).toNat : Nat) : Int)), (7, .i (1 : Int))], [], [], 0⟩ (an2 ob0 ob1) ?_
  refine tN ?_
  obtain ⟨K1, hK1, h⟩ := jn_some h
  refine AWp.join (α := Int × Nat) (fun (x : Int × Nat) => match x with | (i3, n4) => ⟨40, [(1, .i x2), (6, .i i3), (7, .i (n4 : Int))], [], [], 0⟩) (fun x => K1 x = some r) ?_ ?_
  ·
   refine q1rq [] [] ⟨40, [(0, .str x1), (1, .i x2), (6, .i (((x1.getD 0 0).toNat : Nat) : Int)), (7, .i (1 : Int)), (14, .bool (decide ((((x1.getD 0 0).toNat : Nat) : Int) ≥ (128 : Int))))], [], [], 0⟩ trivial ?_
   refine AWp.cond (b := (decide ((((x1.getD 0 0).toNat : Nat) : Int) ≥ (128 : Int)))) (by kernel_rfl) (fun hc2 => ?_) (fun hc2 => ?_)
   ·
    replace h := ite_tb hc2 h
    refine AWp.seq ?_
    refine AWp.seq ?_
    obtain ⟨ob2, h⟩ := chk_some h
    have ob3 := idA (((decide ((lZ x1) < (2 : Int))) == false) = true)
    have ob4 := idA (((decide ((lZ x1) < (2 : Int))) == false) = true)
    have ob5 := bqA (decide ((lZ x1) < (2 : Int))) false
    obtain ⟨ob6, h⟩ := chk_some h
    have ob7 := idA ((((decide ((lZ x1) < (2 : Int))) || ((((x1.getD 1 0).toNat : Nat) : Int) == (0 : Int))) == false) = true)
    have ob8 := idA ((((decide ((lZ x1) < (2 : Int))) || ((((x1.getD 1 0).toNat : Nat) : Int) == (0 : Int))) == false) = true)
    have ob9 := bqA ((decide ((lZ x1) < (2 : Int))) || ((((x1.getD 1 0).toNat : Nat) : Int) == (0 : Int))) false
    refine q1rr [] [] ⟨40, [(0, .str x1), (1, .i x2), (6, .i (((x1.getD 0 0).toNat : Nat) : Int)), (27, .bool (((decide ((lZ x1) < (2 : Int))) || ((((x1.getD 1 0).toNat : Nat) : Int) == (0 : Int))) || (decide ((((x1.getD 1 0).toNat : Nat) : Int) ≥ (128 : Int)))))], [], [], 0⟩ (an6 (And.intro ob2 (an1 ob3)) (an1 ob4) ob5 (And.intro ob6 (an1 ob7)) (an1 ob8) ob9) ?_
    refine tN ?_
    refine AWp.cond (b := (((decide ((lZ x1) < (2 : Int))) || ((((x1.getD 1 0).toNat : Nat) : Int) == (0 : Int))) || (decide ((((x1.getD 1 0).toNat : Nat) : Int) ≥ (128 : Int))))) (by kernel_rfl) (fun hc3 => ?_) (fun hc3 => ?_)
    ·
     replace h := ite_tb hc3 h
     refine q1rq [] [] ⟨40, (f112z0), [], [], 0⟩ trivial ?_
     have hret := Option.some.inj h
     subst hret
     refine AWp.le (Le.mk (s' := ⟨40, (f112z0), [], [], 0⟩) rfl rfl ⟨.refl _, .refl _, trivial⟩ trivial) ?_
     refine AWp.ret ?_
     refine tR ?_
     refine joinQ_ret ?_
     exact bR _ rfl ⟨rfl, rfl⟩ rfl
    ·
     replace h := ite_fb hc3 h
     refine AWp.skip ?_
     refine tN ?_
     obtain ⟨ob10, ob11p, h⟩ := ck2 h
     have ob11 : 0 ≤ (1 : Int) ∧ (1 : Int) < ((x1.length : Nat) : Int) := ⟨by omega, ob11p⟩
     obtain ⟨ob12p, h⟩ := chk_some h
     have ob12 : -9223372036854775808 ≤ (((x1.getD 1 0).toNat : Nat) : Int) ∧ (((x1.getD 1 0).toNat : Nat) : Int) ≤ 9223372036854775807 := ⟨by omega, ob12p⟩
     obtain ⟨ob13, ob14, h⟩ := ck2 h
     refine q1rr [] [] ⟨40, [(1, .i x2), (6, .i (((((x1.getD 0 0).toNat : Nat) : Int) - (128 : Int)) + (((128 * (x1.getD 1 0).toNat) : Nat) : Int))), (7, .i (2 : Int))], [], [], 0⟩ (an5 ob10 ob11 ob12 ob13 ob14) ?_
     exact jN ((((((x1.getD 0 0).toNat : Nat) : Int) - (128 : Int)) + (((128 * (x1.getD 1 0).toNat) : Nat) : Int)), 2) (Le.mk rfl rfl ⟨.refl _, .refl _, .refl _, trivial⟩ trivial) h
   ·
    replace h := ite_fb hc2 h
    refine AWp.skip ?_
    exact jN ((((x1.getD 0 0).toNat : Nat) : Int), 1) (Le.mk rfl rfl ⟨.refl _, .refl _, .refl _, trivial⟩ trivial) h
  ·
   rintro ⟨i3, n4⟩ h
   replace h := (congrFun hK1 _).symm.trans h
   refine AWp.seq ?_
   refine q1rq [] [] ⟨40, [(6, .i i3), (7, .i (n4 : Int)), (37, .bool (decide (i3 > x2)))], [], [], 0⟩ trivial ?_
   refine AWp.cond (b := (decide (i3 > x2))) (by kernel_rfl) (fun hc4 => ?_) (fun hc4 => ?_)
   ·
    replace h := ite_tb hc4 h
    refine q1rq [] [] ⟨40, (f112z0), [], [], 0⟩ trivial ?_
    have hret := Option.some.inj h
    subst hret
    refine AWp.le (Le.mk (s' := ⟨40, (f112z0), [], [], 0⟩) rfl rfl ⟨.refl _, .refl _, trivial⟩ trivial) ?_
    refine AWp.ret ?_
    refine tR ?_
    exact bR _ rfl ⟨rfl, rfl⟩ rfl
   ·
    replace h := ite_fb hc4 h
    refine AWp.skip ?_
    refine tN ?_
    refine q1rq [] [] ⟨40, [(4, .i i3), (5, .i (n4 : Int))], [], [], 0⟩ trivial ?_
    have hret := Option.some.inj h
    subst hret
    refine AWp.le (Le.mk (s' := ⟨40, [(4, .i i3), (5, .i (n4 : Int))], [], [], 0⟩) rfl rfl ⟨.refl _, .refl _, trivial⟩ trivial) ?_
    refine AWp.ret ?_
    exact bR _ rfl ⟨rfl, rfl⟩ rfl
def f81_L0 (x1 : List UInt8) (r2 : Tq0) (K1 : (Int × List (List UInt8)) → Option (Bool × List (List UInt8))) : Nat → (Int × Nat × List (List UInt8)) → Option (Bool × List (List UInt8))
 | 0, _ => none
 | k + 1, (i3, n4, l5) =>
  if (decide ((n4 : Int) < r2.1)) then (
  (f112 (x1.drop ((i3).toNat)) (200 : Int)).bind fun (r6 : Tq0) =>
  chk (0 ≤ i3 ∧ i3 ≤ ((x1.length : Nat) : Int)) <|
  chk (((r6.2 == (0 : Int)) == false) = true → -9223372036854775808 ≤ (i3 + r6.2) ∧ (i3 + r6.2) ≤ 9223372036854775807) <|
  chk (((r6.2 == (0 : Int)) == false) = true → -9223372036854775808 ≤ ((i3 + r6.2) + r6.1) ∧ ((i3 + r6.2) + r6.1) ≤ 9223372036854775807) <|
  if ((r6.2 == (0 : Int)) || (decide (((i3 + r6.2) + r6.1) > ((x1.length : Nat) : Int)))) then (
  some (false, [])
  ) else (
  chk (-9223372036854775808 ≤ (i3 + r6.2) ∧ (i3 + r6.2) ≤ 9223372036854775807) <|
  chk (-9223372036854775808 ≤ (i3 + r6.2) ∧ (i3 + r6.2) ≤ 9223372036854775807) <|
  chk (-9223372036854775808 ≤ ((i3 + r6.2) + r6.1) ∧ ((i3 + r6.2) + r6.1) ≤ 9223372036854775807) <|
  chk (0 ≤ (i3 + r6.2) ∧ (i3 + r6.2) ≤ ((i3 + r6.2) + r6.1) ∧ ((i3 + r6.2) + r6.1) ≤ ((x1.length : Nat) : Int)) <|
  chk (((l5).length + 1) * 16 ≤ 140737488355328) <|
  chk (-9223372036854775808 ≤ (i3 + r6.2) ∧ (i3 + r6.2) ≤ 9223372036854775807) <|
  chk (-9223372036854775808 ≤ ((i3 + r6.2) + r6.1) ∧ ((i3 + r6.2) + r6.1) ≤ 9223372036854775807) <|
  chk (((n4 : Int) + (1 : Int)) ≤ 9223372036854775807) <|
  (f81_L0 x1 r2 K1 k) (((i3 + r6.2) + r6.1), (n4 + 1), (l5 ++ [((x1.take ((((i3 + r6.2) + r6.1)).toNat)).drop (((i3 + r6.2)).toNat))]))
  )
  ) else (
  K1 (i3, l5)
  )
abbrev f81z0 (r6 : Tq0) := ((r6.2 == (0 : Int)) == false)
abbrev f81z1 (l5 : List (List UInt8)) (x1 : List UInt8) (i3 : Int) (r6 : Tq0) : Heap := [(5006, bL 9 1 eS [] (l5 ++ [((x1.take ((((i3 + r6.2) + r6.1)).toNat)).drop (((i3 + r6.2)).toNat))]))]
abbrev f81z2 (x1 : List UInt8) (r2 : Tq0) (i3 : Int) (n4 : Nat) (r6 : Tq0) : List (Nat × V) := [(0, .str x1), (4, .int .i64 r2.1), (5, .int .i64 i3), (6, .own 5006), (7, .int .i64 (n4 : Int)), (8, .int .i64 r6.1), (9, .int .i64 r6.2)]
abbrev f81z3 : List (Nat × V) := [(2, .own 3000), (3, .bool false)]
def f81 (x1 : List UInt8) : Option (Bool × List (List UInt8)) :=
 (f112 x1 (25 : Int)).bind fun (r2 : Tq0) =>
 if (r2.2 == (0 : Int)) then (
 some (false, [])
 ) else (
 jn (fun ((i7, l8) : Int × List (List UInt8)) =>
 some ((i7 == ((x1.length : Nat) : Int)), l8)
 ) fun (K1 : (Int × List (List UInt8)) → Option (Bool × List (List UInt8))) =>
 f81_L0 x1 r2 K1 FUEL (r2.2, 0, [])
 )
theorem f81_ok  (x1 : List UInt8) (r : Bool × List (List UInt8)) (h : f81 x1 = some r)  : Spec1 Tryz.prog 81 [] [] [] [.str x1] (.tup [.own 3000, .bool r.1]) [(3000, bL 9 1 eS [] r.2)] := by
 unfold f81 at h
 refine Spec1.body 0 _ _ Tryz.func81 rfl Tryz.ntmps81 rfl rfl ?_
 refine q1rq [] [] ⟨64, [(0, .str x1)], [], [], 0⟩ trivial ?_
 refine AWp.seq ?_
 obtain ⟨r2, hr2, h⟩ := bind_ok h
 refine q1rr [] [(1, ⟨[.str x1, .i (25 : Int)], [], [], [], .tup [.i r2.1, .i r2.2], [], [], []⟩)] ⟨64, [(0, .str x1), (4, .i r2.1), (5, .i r2.2)], [], [], 0⟩ (an1 (cpT (f112_ok _ _ _ hr2))) ?_
 refine tN ?_
 refine AWp.seq ?_
 refine q1rq [] [] ⟨64, [(0, .str x1), (4, .i r2.1), (5, .i r2.2), (16, .bool (r2.2 == (0 : Int)))], [], [], 0⟩ trivial ?_
 refine AWp.cond (b := (r2.2 == (0 : Int))) (by kernel_rfl) (fun hc1 => ?_) (fun hc1 => ?_)
 ·
  replace h := ite_tb hc1 h
  refine q1rq [] [] ⟨64, [(2, .nils), (3, .bool false)], [], [], 0⟩ trivial ?_
  refine AWp.le (Le.trans (Le.nilOwn 2 3000 9 1 (encF eS [] []) rfl rfl (Nat.le_of_ble_eq_true rfl)) (Le.mk (s' := ⟨64, (f81z3), [(3000, q1bS_9 [])], [], 0⟩) rfl rfl ⟨.refl _, .refl _, trivial⟩ ⟨⟨_, rfl, .refl _⟩, trivial⟩)) ?_
  have hret := Option.some.inj h
  subst hret
  refine AWp.le (Le.mk (s' := ⟨64, (f81z3), [(3000, q1bS_9 [])], [], 0⟩) rfl rfl ⟨.refl _, .refl _, trivial⟩ ⟨⟨_, rfl, .refl _⟩, trivial⟩) ?_
  refine AWp.ret ?_
  refine tR ?_
  exact bR _ rfl ⟨rfl, rfl⟩ rfl
 ·
  replace h := ite_fb hc1 h
  refine AWp.skip ?_
  refine tN ?_
  refine q1rq [] [] ⟨64, [(0, .str x1), (4, .i r2.1), (5, .i r2.2), (6, .nils)], [], [], 0⟩ trivial ?_
  obtain ⟨K1, hK1, h⟩ := jn_some h
  refine AWp.join (α := Int × List (List UInt8)) (fun (x : Int × List (List UInt8)) => match x with | (i7, l8) => ⟨64, [(0, .str x1), (5, .i i7), (6, .own 5006)], [(5006, q1bS_9 l8)], [], 0⟩) (fun x => K1 x = some r) ?_ ?_
  ·
   refine q1rq [] [] ⟨64, [(0, .str x1), (4, .i r2.1), (5, .i r2.2), (6, .nils), (7, .i (0 : Int))], [], [], 0⟩ trivial ?_
   refine AWp.block ?_
   refine AWp.loopL (α := Nat × (Int × Nat × List (List UInt8))) (fun x => match x with | (_, i3, n4, l5) => ⟨64, [(0, .str x1), (4, .i r2.1), (5, .i i3), (6, .own 5006), (7, .i (n4 : Int))], [(5006, q1bS_9 l5)], [], 0⟩) (fun x => f81_L0 x1 r2 K1 x.1 x.2 = some r) (fun x => x.1) (FUEL, r2.2, 0, []) (Le.trans (Le.trans (Le.nilOwn 6 5006 9 1 (encF eS [] []) rfl rfl (Nat.le_of_ble_eq_true rfl)) (Le.mk (s' := ⟨64, [(0, .str x1), (4, .i r2.1), (5, .i r2.2), (6, .own 5006), (7, .i (0 : Int))], [(5006, q1bS_9 [])], [], 0⟩) rfl rfl ⟨.refl _, .refl _, .refl _, .refl _, .refl _, trivial⟩ ⟨⟨_, rfl, .refl _⟩, trivial⟩)) (Le.mk (s' := ⟨64, [(0, .str x1), (4, .i r2.1), (5, .i r2.2), (6, .own 5006), (7, .i (0 : Int))], [(5006, q1bS_9 [])], [], 0⟩) rfl rfl ⟨.refl _, .refl _, .refl _, .refl _, .refl _, trivial⟩ ⟨⟨_, rfl, .refl _⟩, trivial⟩)) h ?_
   rintro ⟨k0, i3, n4, l5⟩ h
   cases k0 with
   | zero => exact nomatch (show (none : Option (Bool × List (List UInt8))) = some r from h)
   | succ k0 =>
   obtain ⟨C0, hC0⟩ : ∃ C, C = f81_L0 x1 r2 K1 k0 := ⟨_, rfl⟩
   replace h := (f81_L0.eq_2 ..).symm.trans h
   try rw [← hC0] at h
   refine AWp.seq ?_
   refine q1rq [] [] ⟨64, [(0, .str x1), (4, .i r2.1), (5, .i i3), (6, .own 5006), (7, .i (n4 : Int)), (19, .bool (decide ((n4 : Int) < r2.1)))], [(5006, q1bS_9 l5)], [], 0⟩ trivial ?_
   refine AWp.cond (b := (decide ((n4 : Int) < r2.1))) (by kernel_rfl) (fun hc2 => ?_) (fun hc2 => ?_)
   ·
    replace h := ite_tb hc2 h
    refine AWp.skip ?_
    refine tN ?_
    refine AWp.seq ?_
    refine AWp.block ?_
    refine AWp.seq ?_
    obtain ⟨r6, hr6, h⟩ := bind_ok h
    obtain ⟨ob0, h⟩ := chk_some h
    refine q1rr [] [(3, ⟨[.str (x1.drop ((i3).toNat)), .i (200 : Int)], [], [], [], .tup [.i r6.1, .i r6.2], [], [], []⟩)] ⟨64, (f81z2 x1 r2 i3 n4 r6), [(5006, q1bS_9 l5)], [], 0⟩ (an2 ob0 (cpT (f112_ok _ _ _ hr6))) ?_
    refine tN ?_
    refine AWp.seq ?_
    refine AWp.seq ?_
    obtain ⟨ob1, h⟩ := chk_some h
    have ob2 := idA ((f81z0 r6) = true)
    have ob3 := idA ((f81z0 r6) = true)
    obtain ⟨ob4, h⟩ := chk_some h
    have ob5 := idA ((f81z0 r6) = true)
    have ob6 := idA ((f81z0 r6) = true)
    have ob7 := idA ((f81z0 r6) = true)
    have ob8 := idA ((f81z0 r6) = true)
    have ob9 := idA ((f81z0 r6) = true)
    have ob10 : true = true → (r6.2 == (0 : Int)) = false → (f81z0 r6) = true := fun _ h => beq_iff_eq.2 h
    refine q1rr [] [] ⟨64, [(0, .str x1), (4, .i r2.1), (5, .i i3), (6, .own 5006), (7, .i (n4 : Int)), (8, .i r6.1), (9, .i r6.2), (40, .bool ((r6.2 == (0 : Int)) || (decide (((i3 + r6.2) + r6.1) > (lZ x1)))))], [(5006, q1bS_9 l5)], [], 0⟩ (an5 (And.intro ob1 (an2 ob2 ob3)) (And.intro ob4 (an2 ob5 ob6)) (an1 ob7) (an2 ob8 ob9) ob10) ?_
    refine tN ?_
    refine AWp.cond (b := ((r6.2 == (0 : Int)) || (decide (((i3 + r6.2) + r6.1) > (lZ x1))))) (by kernel_rfl) (fun hc3 => ?_) (fun hc3 => ?_)
    ·
     replace h := ite_tb hc3 h
     refine q1rq [] [] ⟨64, [(2, .nils), (3, .bool false)], [], [], 0⟩ trivial ?_
     refine AWp.le (Le.trans (Le.nilOwn 2 3000 9 1 (encF eS [] []) rfl rfl (Nat.le_of_ble_eq_true rfl)) (Le.mk (s' := ⟨64, (f81z3), [(3000, q1bS_9 [])], [], 0⟩) rfl rfl ⟨.refl _, .refl _, trivial⟩ ⟨⟨_, rfl, .refl _⟩, trivial⟩)) ?_
     have hret := Option.some.inj h
     subst hret
     refine AWp.le (Le.mk (s' := ⟨64, (f81z3), [(3000, q1bS_9 [])], [], 0⟩) rfl rfl ⟨.refl _, .refl _, trivial⟩ ⟨⟨_, rfl, .refl _⟩, trivial⟩) ?_
     refine AWp.ret ?_
     refine tR ?_
     refine kR ?_
     refine tR ?_
     refine tR ?_
     refine kR ?_
     refine joinQ_ret ?_
     exact bR _ rfl ⟨rfl, rfl⟩ rfl
    ·
     replace h := ite_fb hc3 h
     refine AWp.skip ?_
     refine tN ?_
     refine AWp.seq ?_
     obtain ⟨ob11, ob12, ob13, ob14, ob15, h⟩ := ck5 h
     refine q1rr [] [] ⟨64, (f81z2 x1 r2 i3 n4 r6), [(5006, .rows 9 1 ((l5).length + 1) (appF (l5).length (encF eS [] l5) (lstF 1 [.str ((x1.take ((((i3 + r6.2) + r6.1)).toNat)).drop (((i3 + r6.2)).toNat))])))], [], 0⟩ (an5 ob11 ob12 ob13 ob14 ob15) ?_
     refine tN ?_
     refine AWp.le (Le.mk (s' := ⟨64, (f81z2 x1 r2 i3 n4 r6), (f81z1 l5 x1 i3 r6), [], 0⟩) rfl rfl ⟨.refl _, .refl _, .refl _, .refl _, .refl _, .refl _, .refl _, trivial⟩ ⟨⟨_, rfl, (BLe.of (RL.app (RL.self _) (RL.lst (enc := eS) [((x1.take ((((i3 + r6.2) + r6.1)).toNat)).drop (((i3 + r6.2)).toNat))] rfl rfl (fun _ => rfl))))⟩, trivial⟩) ?_
     obtain ⟨ob16, ob17, h⟩ := ck2 h
     refine q1rr [] [] ⟨64, [(0, .str x1), (4, .i r2.1), (5, .i ((i3 + r6.2) + r6.1)), (6, .own 5006), (7, .i (n4 : Int))], (f81z1 l5 x1 i3 r6), [], 0⟩ (an2 ob16 ob17) ?_
     refine kN ?_
     refine tN ?_
     obtain ⟨ob18p, h⟩ := chk_some h
     have ob18 : -9223372036854775808 ≤ ((n4 : Int) + (1 : Int)) ∧ ((n4 : Int) + (1 : Int)) ≤ 9223372036854775807 := ⟨by omega, ob18p⟩
     refine q1rr [] [] ⟨64, [(0, .str x1), (4, .i r2.1), (5, .i ((i3 + r6.2) + r6.1)), (6, .own 5006), (7, .i (((n4 + 1) : Nat) : Int))], (f81z1 l5 x1 i3 r6), [], 0⟩ (an1 ob18) ?_
     rw [hC0] at h
     exact lN (_, ((i3 + r6.2) + r6.1), (n4 + 1), (l5 ++ [((x1.take ((((i3 + r6.2) + r6.1)).toNat)).drop (((i3 + r6.2)).toNat))])) (Le.mk rfl rfl ⟨.refl _, .refl _, .refl _, .refl _, .refl _, trivial⟩ ⟨⟨_, rfl, .refl _⟩, trivial⟩) h (Nat.lt_succ_self _)
   ·
    replace h := ite_fb hc2 h
    refine AWp.exit ?_
    refine tE ?_
    refine tE ?_
    refine kS ?_
    exact jN (i3, l5) (Le.mk rfl rfl ⟨.refl _, .refl _, .refl _, trivial⟩ ⟨⟨_, rfl, .refl _⟩, trivial⟩) h
  ·
   rintro ⟨i7, l8⟩ h
   replace h := (congrFun hK1 _).symm.trans h
   refine q1rq [] [] ⟨64, [(2, .own 5006), (3, .bool (i7 == (lZ x1)))], [(5006, q1bS_9 l8)], [], 0⟩ trivial ?_
   refine AWp.le (Le.trans (Le.ren (swapN 5006 3000) (swapN_inv 5006 3000) rfl) (Le.mk (s' := ⟨64, [(2, .own 3000), (3, .bool (i7 == (lZ x1)))], [(3000, q1bS_9 l8)], [], 0⟩) rfl rfl ⟨.refl _, .refl _, trivial⟩ ⟨⟨_, rfl, .refl _⟩, trivial⟩)) ?_
   have hret := Option.some.inj h
   subst hret
   refine AWp.le (Le.mk (s' := ⟨64, [(2, .own 3000), (3, .bool (i7 == (lZ x1)))], [(3000, q1bS_9 l8)], [], 0⟩) rfl rfl ⟨.refl _, .refl _, trivial⟩ ⟨⟨_, rfl, .refl _⟩, trivial⟩) ?_
   refine AWp.ret ?_
   exact bR _ rfl ⟨rfl, rfl⟩ rfl
def f88 : Nat → Int → Option (List UInt8)
 | 0, _ => none
 | k + 1, x1 =>
  if (decide (x1 < (10 : Int))) then (
  chk (-9223372036854775808 ≤ ((48 : Int) + x1) ∧ ((48 : Int) + x1) ≤ 9223372036854775807) <|
  chk (0 ≤ ((48 : Int) + x1) ∧ ((48 : Int) + x1) ≤ 255) <|
  some [UInt8.ofNat ((((48 : Int) + x1)).toNat)]
  ) else (
  ((f88 k) (x1 / (10 : Int))).bind fun (r2 : List UInt8) =>
  chk (0 ≤ x1 ∧ 1 ≤ (10 : Int) ∧ -9223372036854775808 ≤ (x1 / (10 : Int)) ∧ (x1 / (10 : Int)) ≤ 9223372036854775807) <|
  chk (0 ≤ x1 ∧ 1 ≤ (10 : Int)) <|
  chk (-9223372036854775808 ≤ ((48 : Int) + (x1 % (10 : Int))) ∧ ((48 : Int) + (x1 % (10 : Int))) ≤ 9223372036854775807) <|
  chk (0 ≤ ((48 : Int) + (x1 % (10 : Int))) ∧ ((48 : Int) + (x1 % (10 : Int))) ≤ 255) <|
  chk (r2.length + [UInt8.ofNat ((((48 : Int) + (x1 % (10 : Int)))).toNat)].length ≤ 9223372036854775807) <|
  some (r2 ++ [UInt8.ofNat ((((48 : Int) + (x1 % (10 : Int)))).toNat)])
  )
theorem f88_ok : ∀ (k : Nat) (x1 : Int) (r : List UInt8), f88 k x1 = some r → Spec1 Tryz.prog 88 [] [] [] [.int .i64 x1] (.str r) [] := by
 intro k
 induction k with
 | zero => intro x1 r h; exact nomatch (show (none : Option (List UInt8)) = some r from h)
 | succ k ih =>
 intro x1 r h
 obtain ⟨Frec, hFrec⟩ : ∃ C, C = f88 k := ⟨_, rfl⟩
 rw [f88.eq_2] at h
 rw [← hFrec] at h ih
 refine Spec1.body 0 _ _ Tryz.func88 rfl Tryz.ntmps88 rfl rfl ?_
 refine q1rq [] [] ⟨20, [(0, .i x1)], [], [], 0⟩ trivial ?_
 refine AWp.seq ?_
 refine q1rq [] [] ⟨20, [(0, .i x1), (4, .bool (decide (x1 < (10 : Int))))], [], [], 0⟩ trivial ?_
 refine AWp.cond (b := (decide (x1 < (10 : Int)))) (by kernel_rfl) (fun hc1 => ?_) (fun hc1 => ?_)
 ·
  replace h := ite_tb hc1 h
  refine AWp.seq ?_
  obtain ⟨ob0, ob1, h⟩ := ck2 h
  have ob2 : ∀ i, i < 1 → isByte ((lstF 1 [.int .u8 ((48 : Int) + x1)]) i 0) := fun i hi => match i, hi with | 0, _ => trivial
  refine q1rr [] [] ⟨20, [(2, .str [UInt8.ofNat ((((48 : Int) + x1)).toNat)])], [], [], 0⟩ (an3 ob0 ob1 ob2) ?_
  refine tN ?_
  have hret := Option.some.inj h
  subst hret
  refine AWp.le (Le.mk (s' := ⟨20, [(2, .str [UInt8.ofNat ((((48 : Int) + x1)).toNat)])], [], [], 0⟩) rfl rfl ⟨.refl _, trivial⟩ trivial) ?_
  refine AWp.ret ?_
  refine tR ?_
  exact bR _ rfl ⟨rfl, rfl⟩ rfl
 ·
  replace h := ite_fb hc1 h
  refine AWp.skip ?_
  refine tN ?_
  refine AWp.seq ?_
  obtain ⟨r2, hr2, h⟩ := bind_ok h
  obtain ⟨ob3, ob4, ob5, ob6, h⟩ := ck4 h
  have ob7 : ∀ i, i < 1 → isByte ((lstF 1 [.int .u8 ((48 : Int) + (x1 % (10 : Int)))]) i 0) := fun i hi => match i, hi with | 0, _ => trivial
  obtain ⟨ob8, h⟩ := chk_some h
  refine q1rr [] [(2, ⟨[.i (x1 / (10 : Int))], [], [], [], .str r2, [], [], []⟩)] ⟨20, [(2, .str (r2 ++ [UInt8.ofNat ((((48 : Int) + (x1 % (10 : Int)))).toNat)]))], [], [], 0⟩ (ac6 ob3 (cpT (ih _ _ hr2)) ob4 ob5 ob6 ob7 (an1 ob8)) ?_
  refine tN ?_
  have hret := Option.some.inj h
  subst hret
  refine AWp.le (Le.mk (s' := ⟨20, [(2, .str (r2 ++ [UInt8.ofNat ((((48 : Int) + (x1 % (10 : Int)))).toNat)]))], [], [], 0⟩) rfl rfl ⟨.refl _, trivial⟩ trivial) ?_
  refine AWp.ret ?_
  exact bR _ rfl ⟨rfl, rfl⟩ rfl
def f82_L0 (x1 : List UInt8) (K1 : Int → Option Int) : Nat → (Int × Nat) → Option Int
 | 0, _ => none
 | k + 1, (i2, n3) =>
  if (decide ((n3 : Int) < ((x1.length : Nat) : Int))) then (
  chk ((n3 : Int) < ((x1.length : Nat) : Int)) <|
  chk (((decide ((((x1.getD n3 0).toNat : Nat) : Int) < (48 : Int))) == false) = true → 0 ≤ (n3 : Int) ∧ (n3 : Int) < ((x1.length : Nat) : Int)) <|
  if (((decide ((((x1.getD n3 0).toNat : Nat) : Int) < (48 : Int))) || (decide ((((x1.getD n3 0).toNat : Nat) : Int) > (57 : Int)))) || (decide ((n3 : Int) > (6 : Int)))) then (
  some (-1 : Int)
  ) else (
  chk (-9223372036854775808 ≤ ((10 : Int) * i2) ∧ ((10 : Int) * i2) ≤ 9223372036854775807) <|
  chk ((n3 : Int) < ((x1.length : Nat) : Int)) <|
  chk (0 ≤ ((((x1.getD n3 0).toNat : Nat) : Int) - (48 : Int)) ∧ ((((x1.getD n3 0).toNat : Nat) : Int) - (48 : Int)) ≤ 255) <|
  chk (-9223372036854775808 ≤ ((((x1.getD n3 0).toNat : Nat) : Int) - (48 : Int)) ∧ ((((x1.getD n3 0).toNat : Nat) : Int) - (48 : Int)) ≤ 9223372036854775807) <|
  chk (-9223372036854775808 ≤ (((10 : Int) * i2) + ((((x1.getD n3 0).toNat : Nat) : Int) - (48 : Int))) ∧ (((10 : Int) * i2) + ((((x1.getD n3 0).toNat : Nat) : Int) - (48 : Int))) ≤ 9223372036854775807) <|
  chk (((n3 : Int) + (1 : Int)) ≤ 9223372036854775807) <|
  (f82_L0 x1 K1 k) ((((10 : Int) * i2) + ((((x1.getD n3 0).toNat : Nat) : Int) - (48 : Int))), (n3 + 1))
  )
  ) else (
  K1 i2
  )
def f82 (x1 : List UInt8) : Option Int :=
 jn (fun (i4 : Int) =>
 optc ((x1 == []) == false) (f88 FUEL i4) fun (r5 : List UInt8) =>
 if ((x1 == []) || (!(r5 == x1))) then (
 some (-1 : Int)
 ) else (
 some i4
 )
 ) fun (K1 : Int → Option Int) =>
 f82_L0 x1 K1 FUEL ((0 : Int), 0)
theorem f82_ok  (x1 : List UInt8) (r : Int) (h : f82 x1 = some r)  : Spec1 Tryz.prog 82 [] [] [] [.str x1] (.int .i64 r) [] := by
 unfold f82 at h
 refine Spec1.body 0 _ _ Tryz.func82 rfl Tryz.ntmps82 rfl rfl ?_
 refine q1rq [] [] ⟨42, [(0, .str x1)], [], [], 0⟩ trivial ?_
 refine q1rq [] [] ⟨42, [(0, .str x1), (3, .i (0 : Int))], [], [], 0⟩ trivial ?_
 obtain ⟨K1, hK1, h⟩ := jn_some h
 refine AWp.join (α := Int) (fun (i4 : Int) => ⟨42, [(0, .str x1), (3, .i i4)], [], [], 0⟩) (fun x => K1 x = some r) ?_ ?_
 ·
  refine q1rq [] [] ⟨42, [(0, .str x1), (3, .i (0 : Int)), (4, .i (0 : Int))], [], [], 0⟩ trivial ?_
  refine AWp.block ?_
  refine AWp.loopL (α := Nat × (Int × Nat)) (fun x => match x with | (_, i2, n3) => ⟨42, [(0, .str x1), (3, .i i2), (4, .i (n3 : Int))], [], [], 0⟩) (fun x => f82_L0 x1 K1 x.1 x.2 = some r) (fun x => x.1) (FUEL, (0 : Int), 0) (Le.mk (s' := ⟨42, [(0, .str x1), (3, .i (0 : Int)), (4, .i (0 : Int))], [], [], 0⟩) rfl rfl ⟨.refl _, .refl _, .refl _, trivial⟩ trivial) h ?_
  rintro ⟨k0, i2, n3⟩ h
  cases k0 with
  | zero => exact nomatch (show (none : Option Int) = some r from h)
  | succ k0 =>
  obtain ⟨C0, hC0⟩ : ∃ C, C = f82_L0 x1 K1 k0 := ⟨_, rfl⟩
  replace h := (f82_L0.eq_2 ..).symm.trans h
  try rw [← hC0] at h
  refine AWp.seq ?_
  refine q1rq [] [] ⟨42, [(0, .str x1), (3, .i i2), (4, .i (n3 : Int)), (8, .bool (decide ((n3 : Int) < (lZ x1))))], [], [], 0⟩ trivial ?_
  refine AWp.cond (b := (decide ((n3 : Int) < (lZ x1)))) (by kernel_rfl) (fun hc1 => ?_) (fun hc1 => ?_)
  ·
   replace h := ite_tb hc1 h
   refine AWp.skip ?_
   refine tN ?_
   refine AWp.seq ?_
   refine AWp.block ?_
   refine AWp.seq ?_
   refine AWp.seq ?_
   obtain ⟨ob0p, h⟩ := chk_some h
   have ob0 : 0 ≤ (n3 : Int) ∧ (n3 : Int) < ((x1.length : Nat) : Int) := ⟨by omega, ob0p⟩
   obtain ⟨ob1, h⟩ := chk_some h
   have ob2 := idA (((decide ((((x1.getD n3 0).toNat : Nat) : Int) < (48 : Int))) == false) = true)
   have ob3 := idA (((decide ((((x1.getD n3 0).toNat : Nat) : Int) < (48 : Int))) == false) = true)
   have ob4 := idA (((decide ((((x1.getD n3 0).toNat : Nat) : Int) < (48 : Int))) == false) = true)
   have ob5 := bqA (decide ((((x1.getD n3 0).toNat : Nat) : Int) < (48 : Int))) false
   have ob6 := idA ((((decide ((((x1.getD n3 0).toNat : Nat) : Int) < (48 : Int))) || (decide ((((x1.getD n3 0).toNat : Nat) : Int) > (57 : Int)))) == false) = true)
   have ob7 := bqA ((decide ((((x1.getD n3 0).toNat : Nat) : Int) < (48 : Int))) || (decide ((((x1.getD n3 0).toNat : Nat) : Int) > (57 : Int)))) false
   refine q1rr [] [] ⟨42, [(0, .str x1), (3, .i i2), (4, .i (n3 : Int)), (24, .bool (((decide ((((x1.getD n3 0).toNat : Nat) : Int) < (48 : Int))) || (decide ((((x1.getD n3 0).toNat : Nat) : Int) > (57 : Int)))) || (decide ((n3 : Int) > (6 : Int)))))], [], [], 0⟩ (an6 ob0 (And.intro ob1 (an2 ob2 ob3)) (an1 ob4) ob5 (an1 ob6) ob7) ?_
   refine tN ?_
   refine AWp.cond (b := (((decide ((((x1.getD n3 0).toNat : Nat) : Int) < (48 : Int))) || (decide ((((x1.getD n3 0).toNat : Nat) : Int) > (57 : Int)))) || (decide ((n3 : Int) > (6 : Int))))) (by kernel_rfl) (fun hc2 => ?_) (fun hc2 => ?_)
   ·
    replace h := ite_tb hc2 h
    refine q1rq [] [] ⟨42, [(2, .i (-1 : Int))], [], [], 0⟩ trivial ?_
    have hret := Option.some.inj h
    subst hret
    refine AWp.le (Le.mk (s' := ⟨42, [(2, .i (-1 : Int))], [], [], 0⟩) rfl rfl ⟨.refl _, trivial⟩ trivial) ?_
    refine AWp.ret ?_
    refine tR ?_
    refine kR ?_
    refine tR ?_
    refine tR ?_
    refine kR ?_
    refine joinQ_ret ?_
    exact bR _ rfl ⟨rfl, rfl⟩ rfl
   ·
    replace h := ite_fb hc2 h
    refine AWp.skip ?_
    refine tN ?_
    obtain ⟨ob8, ob9p, h⟩ := ck2 h
    have ob9 : 0 ≤ (n3 : Int) ∧ (n3 : Int) < ((x1.length : Nat) : Int) := ⟨by omega, ob9p⟩
    obtain ⟨ob10, ob11, ob12, h⟩ := ck3 h
    refine q1rr [] [] ⟨42, [(0, .str x1), (3, .i (((10 : Int) * i2) + ((((x1.getD n3 0).toNat : Nat) : Int) - (48 : Int)))), (4, .i (n3 : Int))], [], [], 0⟩ (an5 ob8 ob9 ob10 ob11 ob12) ?_
    refine kN ?_
    refine tN ?_
    obtain ⟨ob13p, h⟩ := chk_some h
    have ob13 : -9223372036854775808 ≤ ((n3 : Int) + (1 : Int)) ∧ ((n3 : Int) + (1 : Int)) ≤ 9223372036854775807 := ⟨by omega, ob13p⟩
    refine q1rr [] [] ⟨42, [(0, .str x1), (3, .i (((10 : Int) * i2) + ((((x1.getD n3 0).toNat : Nat) : Int) - (48 : Int)))), (4, .i (((n3 + 1) : Nat) : Int))], [], [], 0⟩ (an1 ob13) ?_
    rw [hC0] at h
    exact lN (_, (((10 : Int) * i2) + ((((x1.getD n3 0).toNat : Nat) : Int) - (48 : Int))), (n3 + 1)) (Le.mk rfl rfl ⟨.refl _, .refl _, .refl _, trivial⟩ trivial) h (Nat.lt_succ_self _)
  ·
   replace h := ite_fb hc1 h
   refine AWp.exit ?_
   refine tE ?_
   refine tE ?_
   refine kS ?_
   exact jN (i2) (Le.mk rfl rfl ⟨.refl _, .refl _, trivial⟩ trivial) h
 ·
  rintro i4 h
  replace h := (congrFun hK1 _).symm.trans h
  refine AWp.seq ?_
  refine AWp.seq ?_
  obtain ⟨r5, hr5, h⟩ := optc_some h
  have ob14 := idA (((x1 == []) == false) = true)
  have ob15 := idA (((x1 == []) == false) = true)
  have ob16 := idA (((x1 == []) == false) = true)
  have ob17 := bqA (x1 == []) false
  refine q1rr [] [(4, ⟨[.i i4], [], [], [], .str r5, [], [], []⟩)] ⟨42, [(3, .i i4), (40, .bool ((x1 == []) || (!(r5 == x1))))], [], [], 0⟩ (an3 (And.intro (cpC fun hc => (f88_ok FUEL _ _ (hr5 hc))) (an1 ob14)) (an2 ob15 ob16) ob17) ?_
  refine tN ?_
  refine AWp.cond (b := ((x1 == []) || (!(r5 == x1)))) (by kernel_rfl) (fun hc3 => ?_) (fun hc3 => ?_)
  ·
   replace h := ite_tb hc3 h
   refine q1rq [] [] ⟨42, [(2, .i (-1 : Int))], [], [], 0⟩ trivial ?_
   have hret := Option.some.inj h
   subst hret
   refine AWp.le (Le.mk (s' := ⟨42, [(2, .i (-1 : Int))], [], [], 0⟩) rfl rfl ⟨.refl _, trivial⟩ trivial) ?_
   refine AWp.ret ?_
   refine tR ?_
   exact bR _ rfl ⟨rfl, rfl⟩ rfl
  ·
   replace h := ite_fb hc3 h
   refine AWp.skip ?_
   refine tN ?_
   refine q1rq [] [] ⟨42, [(2, .i i4)], [], [], 0⟩ trivial ?_
   have hret := Option.some.inj h
   subst hret
   refine AWp.le (Le.mk (s' := ⟨42, [(2, .i i4)], [], [], 0⟩) rfl rfl ⟨.refl _, trivial⟩ trivial) ?_
   refine AWp.ret ?_
   exact bR _ rfl ⟨rfl, rfl⟩ rfl
abbrev f119z0 (x1 : Int) := ((decide (x1 < (0 : Int))) || (decide (x1 ≥ (6 : Int))))
abbrev f119z1 (x1 : Int) (x2 : Int) := ((f119z0 x1) || (decide (x2 < (1 : Int))))
abbrev f119z2 (x1 : Int) := ((decide (x1 < (0 : Int))) == false)
def f119 (x1 : Int) (x2 : Int) (x3 : List UInt8) : Option Int :=
 if ((((decide (x1 < (0 : Int))) || (decide (x1 ≥ (6 : Int)))) || (decide (x2 < (1 : Int)))) || (decide (x2 > (1000000 : Int)))) then (
 some (7 : Int)
 ) else (
 if (x3 == []) then (
 some (9 : Int)
 ) else (
 if (decide (((x3.length : Nat) : Int) > (200 : Int))) then (
 some (3 : Int)
 ) else (
 some (0 : Int)
 )
 )
 )
theorem f119_ok  (x1 : Int) (x2 : Int) (x3 : List UInt8) (r : Int) (h : f119 x1 x2 x3 = some r)  : Spec1 Tryz.prog 119 [] [] [] [.agg [.int .i64 x1, .int .i64 x2, .str x3]] (.int .i64 r) [] := by
 unfold f119 at h
 refine Spec1.body 0 _ _ Tryz.func119 rfl Tryz.ntmps119 rfl rfl ?_
 refine q1rq [] [] ⟨28, [(1, .ptr 1 0)], [(1, .cells 88 [.i x1, .i x2, .str x3])], [], 0⟩ trivial ?_
 refine AWp.seq ?_
 refine AWp.seq ?_
 have ob0 := idA ((f119z2 x1) = true)
 have ob1 := idA ((f119z2 x1) = true)
 have ob2 : true = true → (decide (x1 < (0 : Int))) = false → (f119z2 x1) = true := fun _ h => beq_iff_eq.2 h
 have ob3 := idA (((f119z0 x1) == false) = true)
 have ob4 := idA (((f119z0 x1) == false) = true)
 have ob5 := bqA (f119z0 x1) false
 have ob6 := idA (((f119z1 x1 x2) == false) = true)
 have ob7 := idA (((f119z1 x1 x2) == false) = true)
 have ob8 := bqA (f119z1 x1 x2) false
 refine q1rr [] [] ⟨28, [(1, .ptr 1 0), (20, .bool ((f119z1 x1 x2) || (decide (x2 > (1000000 : Int)))))], [(1, .cells 88 [.i x1, .i x2, .str x3])], [], 0⟩ (ac6 (an1 ob0) (an1 ob1) ob2 (an1 ob3) (an1 ob4) ob5 (an3 (an1 ob6) (an1 ob7) ob8)) ?_
 refine tN ?_
 refine AWp.cond (b := ((f119z1 x1 x2) || (decide (x2 > (1000000 : Int))))) (by kernel_rfl) (fun hc1 => ?_) (fun hc1 => ?_)
 ·
  replace h := ite_tb hc1 h
  refine q1rq [] [] ⟨28, [(2, .i (7 : Int))], [], [], 0⟩ trivial ?_
  have hret := Option.some.inj h
  subst hret
  refine AWp.le (Le.mk (s' := ⟨28, [(2, .i (7 : Int))], [], [], 0⟩) rfl rfl ⟨.refl _, trivial⟩ trivial) ?_
  refine AWp.ret ?_
  refine tR ?_
  exact bR _ rfl ⟨rfl, rfl⟩ rfl
 ·
  replace h := ite_fb hc1 h
  refine AWp.skip ?_
  refine tN ?_
  refine AWp.seq ?_
  refine q1rq [] [] ⟨28, [(1, .ptr 1 0), (23, .bool (x3 == []))], [(1, .cells 88 [.i x1, .i x2, .str x3])], [], 0⟩ trivial ?_
  refine AWp.cond (b := (x3 == [])) (by kernel_rfl) (fun hc2 => ?_) (fun hc2 => ?_)
  ·
   replace h := ite_tb hc2 h
   refine q1rq [] [] ⟨28, [(2, .i (9 : Int))], [], [], 0⟩ trivial ?_
   have hret := Option.some.inj h
   subst hret
   refine AWp.le (Le.mk (s' := ⟨28, [(2, .i (9 : Int))], [], [], 0⟩) rfl rfl ⟨.refl _, trivial⟩ trivial) ?_
   refine AWp.ret ?_
   refine tR ?_
   exact bR _ rfl ⟨rfl, rfl⟩ rfl
  ·
   replace h := ite_fb hc2 h
   refine AWp.skip ?_
   refine tN ?_
   refine AWp.seq ?_
   refine q1rq [] [] ⟨28, [(27, .bool (decide ((lZ x3) > (200 : Int))))], [], [], 0⟩ trivial ?_
   refine AWp.cond (b := (decide ((lZ x3) > (200 : Int)))) (by kernel_rfl) (fun hc3 => ?_) (fun hc3 => ?_)
   ·
    replace h := ite_tb hc3 h
    refine q1rq [] [] ⟨28, [(2, .i (3 : Int))], [], [], 0⟩ trivial ?_
    have hret := Option.some.inj h
    subst hret
    refine AWp.le (Le.mk (s' := ⟨28, [(2, .i (3 : Int))], [], [], 0⟩) rfl rfl ⟨.refl _, trivial⟩ trivial) ?_
    refine AWp.ret ?_
    refine tR ?_
    exact bR _ rfl ⟨rfl, rfl⟩ rfl
   ·
    replace h := ite_fb hc3 h
    refine AWp.skip ?_
    refine tN ?_
    refine q1rq [] [] ⟨28, [(2, .i (0 : Int))], [], [], 0⟩ trivial ?_
    have hret := Option.some.inj h
    subst hret
    refine AWp.le (Le.mk (s' := ⟨28, [(2, .i (0 : Int))], [], [], 0⟩) rfl rfl ⟨.refl _, trivial⟩ trivial) ?_
    refine AWp.ret ?_
    exact bR _ rfl ⟨rfl, rfl⟩ rfl
def f149 (x1 : Int) (x2 : Int) (x3 : List UInt8) (x4 : Int) (x5 : Int) (x6 : List UInt8) : Option Bool :=
 some ((x1 == x4) && (x2 == x5))
theorem f149_ok  (x1 : Int) (x2 : Int) (x3 : List UInt8) (x4 : Int) (x5 : Int) (x6 : List UInt8) (r : Bool) (h : f149 x1 x2 x3 x4 x5 x6 = some r)  : Spec1 Tryz.prog 149 [] [] [] [.agg [.int .i64 x1, .int .i64 x2, .str x3], .agg [.int .i64 x4, .int .i64 x5, .str x6]] (.bool r) [] := by
 unfold f149 at h
 refine Spec1.body 0 _ _ Tryz.func149 rfl Tryz.ntmps149 rfl rfl ?_
 refine q1rq [] [] ⟨17, [(2, .ptr 2 0), (3, .ptr 3 0)], [(2, .cells 88 [.i x1, .i x2, .str x3]), (3, .cells 88 [.i x4, .i x5, .str x6])], [], 0⟩ trivial ?_
 refine AWp.seq ?_
 have ob0 := idA (((x1 == x4) == true) = true)
 have ob1 := idA (((x1 == x4) == true) = true)
 have ob2 := idA (((x1 == x4) == true) = true)
 have ob3 := idA (((x1 == x4) == true) = true)
 have ob4 := bqA (x1 == x4) true
 refine q1rr [] [] ⟨17, [(4, .bool ((x1 == x4) && (x2 == x5)))], [], [], 0⟩ (an4 (an1 ob0) (an1 ob1) (an2 ob2 ob3) ob4) ?_
 refine tN ?_
 have hret := Option.some.inj h
 subst hret
 refine AWp.le (Le.mk (s' := ⟨17, [(4, .bool ((x1 == x4) && (x2 == x5)))], [], [], 0⟩) rfl rfl ⟨.refl _, trivial⟩ trivial) ?_
 refine AWp.ret ?_
 exact bR _ rfl ⟨rfl, rfl⟩ rfl
def f120_L0 (x1 : List Tq2) (x2 : Int) (x3 : Int) (x4 : List UInt8) (K1 : Unit → Option Bool) : Nat → Nat → Option Bool
 | 0, _ => none
 | k + 1, n5 =>
  if (decide ((n5 : Int) < (((x1).length : Nat) : Int))) then (
  (f149 ((x1.getD n5 (default : Tq2)).1) ((x1.getD n5 (default : Tq2)).2.1) ((x1.getD n5 (default : Tq2)).2.2) x2 x3 x4).bind fun (r6 : Bool) =>
  chk ((n5 : Int) < (((x1).length : Nat) : Int)) <|
  if r6 then (
  some true
  ) else (
  chk (((n5 : Int) + (1 : Int)) ≤ 9223372036854775807) <|
  (f120_L0 x1 x2 x3 x4 K1 k) (n5 + 1)
  )
  ) else (
  K1 ()
  )
abbrev f120z0 (x2 : Int) (x3 : Int) (x4 : List UInt8) : Heap := [(3, .cells 88 [.int .i64 x2, .int .i64 x3, .str x4])]
def f120 (x1 : List Tq2) (x2 : Int) (x3 : Int) (x4 : List UInt8) : Option Bool :=
 jn (fun (_ : Unit) =>
 some false
 ) fun (K1 : Unit → Option Bool) =>
 f120_L0 x1 x2 x3 x4 K1 FUEL 0
theorem f120_ok  (x1 : List Tq2) (x2 : Int) (x3 : Int) (x4 : List UInt8) (r : Bool) (h : f120 x1 x2 x3 x4 = some r)  : Spec1 Tryz.prog 120 [] [] [] [vL 3 eIIS (default : Tq2) x1, .agg [.int .i64 x2, .int .i64 x3, .str x4]] (.bool r) [] := by
 unfold f120 at h
 refine Spec1.body 0 _ _ Tryz.func120 rfl Tryz.ntmps120 rfl rfl ?_
 refine q1rq [] [] ⟨18, [(0, q1aIIS x1), (3, .ptr 3 0)], (f120z0 x2 x3 x4), [], 0⟩ trivial ?_
 obtain ⟨K1, hK1, h⟩ := jn_some h
 refine AWp.join (α := Unit) (fun (x : Unit) => match x with | () => ⟨18, [], [], [], 0⟩) (fun x => K1 x = some r) ?_ ?_
 ·
  refine q1rq [] [] ⟨18, [(0, q1aIIS x1), (3, .ptr 3 0), (5, .i (0 : Int))], (f120z0 x2 x3 x4), [], 0⟩ trivial ?_
  refine AWp.block ?_
  refine AWp.loopL (α := Nat × Nat) (fun x => match x with | (_, n5) => ⟨18, [(0, q1aIIS x1), (3, .ptr 3 0), (5, .i (n5 : Int))], (f120z0 x2 x3 x4), [], 0⟩) (fun x => f120_L0 x1 x2 x3 x4 K1 x.1 x.2 = some r) (fun x => x.1) (FUEL, 0) (Le.mk (s' := ⟨18, [(0, q1aIIS x1), (3, .ptr 3 0), (5, .i (0 : Int))], (f120z0 x2 x3 x4), [], 0⟩) rfl rfl ⟨.refl _, .refl _, .refl _, trivial⟩ ⟨⟨_, rfl, .refl _⟩, trivial⟩) h ?_
  rintro ⟨k0, n5⟩ h
  cases k0 with
  | zero => exact nomatch (show (none : Option Bool) = some r from h)
  | succ k0 =>
  obtain ⟨C0, hC0⟩ : ∃ C, C = f120_L0 x1 x2 x3 x4 K1 k0 := ⟨_, rfl⟩
  replace h := (f120_L0.eq_2 ..).symm.trans h
  try rw [← hC0] at h
  refine AWp.seq ?_
  refine q1rq [] [] ⟨18, [(0, q1aIIS x1), (3, .ptr 3 0), (5, .i (n5 : Int)), (9, .bool (decide ((n5 : Int) < (lZ x1))))], (f120z0 x2 x3 x4), [], 0⟩ trivial ?_
  refine AWp.cond (b := (decide ((n5 : Int) < (lZ x1)))) (by kernel_rfl) (fun hc1 => ?_) (fun hc1 => ?_)
  ·
   replace h := ite_tb hc1 h
   refine AWp.skip ?_
   refine tN ?_
   refine AWp.seq ?_
   refine AWp.block ?_
   refine AWp.seq ?_
   obtain ⟨r6, hr6, h⟩ := bind_ok h
   obtain ⟨ob0p, h⟩ := chk_some h
   have ob0 : 0 ≤ (n5 : Int) ∧ (n5 : Int) < (((x1).length : Nat) : Int) := ⟨by omega, ob0p⟩
   refine q1rr [] [(5, ⟨[.agg [.i (x1.getD n5 q1dIIS).1, .i (x1.getD n5 q1dIIS).2.1, .str (x1.getD n5 q1dIIS).2.2], .agg [.i x2, .i x3, .str x4]], [], [], [], .bool r6, [], [], []⟩)] ⟨18, [(0, q1aIIS x1), (3, .ptr 3 0), (5, .i (n5 : Int)), (17, .bool r6)], (f120z0 x2 x3 x4), [], 0⟩ (an2 ob0 (cpT (f149_ok _ _ _ _ _ _ _ hr6))) ?_
   refine tN ?_
   refine AWp.cond (b := r6) (by kernel_rfl) (fun hc2 => ?_) (fun hc2 => ?_)
   ·
    replace h := ite_tb hc2 h
    refine q1rq [] [] ⟨18, [(4, .bool true)], [], [], 0⟩ trivial ?_
    have hret := Option.some.inj h
    subst hret
    refine AWp.le (Le.mk (s' := ⟨18, [(4, .bool true)], [], [], 0⟩) rfl rfl ⟨.refl _, trivial⟩ trivial) ?_
    refine AWp.ret ?_
    refine kR ?_
    refine tR ?_
    refine tR ?_
    refine kR ?_
    refine joinQ_ret ?_
    exact bR _ rfl ⟨rfl, rfl⟩ rfl
   ·
    replace h := ite_fb hc2 h
    refine AWp.skip ?_
    refine kN ?_
    refine tN ?_
    obtain ⟨ob1p, h⟩ := chk_some h
    have ob1 : -9223372036854775808 ≤ ((n5 : Int) + (1 : Int)) ∧ ((n5 : Int) + (1 : Int)) ≤ 9223372036854775807 := ⟨by omega, ob1p⟩
    refine q1rr [] [] ⟨18, [(0, q1aIIS x1), (3, .ptr 3 0), (5, .i (((n5 + 1) : Nat) : Int))], (f120z0 x2 x3 x4), [], 0⟩ (an1 ob1) ?_
    rw [hC0] at h
    exact lN (_, (n5 + 1)) (Le.mk rfl rfl ⟨.refl _, .refl _, .refl _, trivial⟩ ⟨⟨_, rfl, .refl _⟩, trivial⟩) h (Nat.lt_succ_self _)
  ·
   replace h := ite_fb hc1 h
   refine AWp.exit ?_
   refine tE ?_
   refine tE ?_
   refine kS ?_
   exact jN () (Le.mk rfl rfl trivial trivial) h
 ·
  rintro ⟨⟩ h
  replace h := (congrFun hK1 _).symm.trans h
  refine q1rq [] [] ⟨18, [(4, .bool false)], [], [], 0⟩ trivial ?_
  have hret := Option.some.inj h
  subst hret
  refine AWp.le (Le.mk (s' := ⟨18, [(4, .bool false)], [], [], 0⟩) rfl rfl ⟨.refl _, trivial⟩ trivial) ?_
  refine AWp.ret ?_
  exact bR _ rfl ⟨rfl, rfl⟩ rfl
def f86_L0 (x1 : List Tq2) (K1 : Unit → Option Int) : Nat → Nat → Option Int
 | 0, _ => none
 | k + 1, n2 =>
  if (decide ((n2 : Int) < (((x1).length : Nat) : Int))) then (
  (f119 ((x1.getD n2 (default : Tq2)).1) ((x1.getD n2 (default : Tq2)).2.1) ((x1.getD n2 (default : Tq2)).2.2)).bind fun (r3 : Int) =>
  chk ((n2 : Int) < (((x1).length : Nat) : Int)) <|
  if (r3 != (0 : Int)) then (
  some r3
  ) else (
  (f120 (x1.take n2) ((x1.getD n2 (default : Tq2)).1) ((x1.getD n2 (default : Tq2)).2.1) ((x1.getD n2 (default : Tq2)).2.2)).bind fun (r4 : Bool) =>
  chk ((n2 : Int) ≤ (((x1).length : Nat) : Int)) <|
  chk ((n2 : Int) < (((x1).length : Nat) : Int)) <|
  if r4 then (
  some (5 : Int)
  ) else (
  chk (((n2 : Int) + (1 : Int)) ≤ 9223372036854775807) <|
  (f86_L0 x1 K1 k) (n2 + 1)
  )
  )
  ) else (
  K1 ()
  )
abbrev f86z0 (x1 : List Tq2) (n2 : Nat) : List V := [.int .i64 (x1.getD n2 (default : Tq2)).1, .int .i64 (x1.getD n2 (default : Tq2)).2.1, .str (x1.getD n2 (default : Tq2)).2.2]
def f86 (x1 : List Tq2) : Option Int :=
 jn (fun (_ : Unit) =>
 some (0 : Int)
 ) fun (K1 : Unit → Option Int) =>
 f86_L0 x1 K1 FUEL 0
theorem f86_ok  (x1 : List Tq2) (r : Int) (h : f86 x1 = some r)  : Spec1 Tryz.prog 86 [] [] [] [vL 3 eIIS (default : Tq2) x1] (.int .i64 r) [] := by
 unfold f86 at h
 refine Spec1.body 0 _ _ Tryz.func86 rfl Tryz.ntmps86 rfl rfl ?_
 refine q1rq [] [] ⟨27, [(0, q1aIIS x1)], [], [], 0⟩ trivial ?_
 obtain ⟨K1, hK1, h⟩ := jn_some h
 refine AWp.join (α := Unit) (fun (x : Unit) => match x with | () => ⟨27, [], [], [], 0⟩) (fun x => K1 x = some r) ?_ ?_
 ·
  refine q1rq [] [] ⟨27, [(0, q1aIIS x1), (3, .i (0 : Int))], [], [], 0⟩ trivial ?_
  refine AWp.block ?_
  refine AWp.loopL (α := Nat × Nat) (fun x => match x with | (_, n2) => ⟨27, [(0, q1aIIS x1), (3, .i (n2 : Int))], [], [], 0⟩) (fun x => f86_L0 x1 K1 x.1 x.2 = some r) (fun x => x.1) (FUEL, 0) (Le.mk (s' := ⟨27, [(0, q1aIIS x1), (3, .i (0 : Int))], [], [], 0⟩) rfl rfl ⟨.refl _, .refl _, trivial⟩ trivial) h ?_
  rintro ⟨k0, n2⟩ h
  cases k0 with
  | zero => exact nomatch (show (none : Option Int) = some r from h)
  | succ k0 =>
  obtain ⟨C0, hC0⟩ : ∃ C, C = f86_L0 x1 K1 k0 := ⟨_, rfl⟩
  replace h := (f86_L0.eq_2 ..).symm.trans h
  try rw [← hC0] at h
  refine AWp.seq ?_
  refine q1rq [] [] ⟨27, [(0, q1aIIS x1), (3, .i (n2 : Int)), (8, .bool (decide ((n2 : Int) < (lZ x1))))], [], [], 0⟩ trivial ?_
  refine AWp.cond (b := (decide ((n2 : Int) < (lZ x1)))) (by kernel_rfl) (fun hc1 => ?_) (fun hc1 => ?_)
  ·
   replace h := ite_tb hc1 h
   refine AWp.skip ?_
   refine tN ?_
   refine AWp.seq ?_
   refine AWp.block ?_
   refine AWp.seq ?_
   refine AWp.seq ?_
   obtain ⟨r3, hr3, h⟩ := bind_ok h
   obtain ⟨ob0p, h⟩ := chk_some h
   have ob0 : 0 ≤ (n2 : Int) ∧ (n2 : Int) < (((x1).length : Nat) : Int) := ⟨by omega, ob0p⟩
   refine q1rr [] [(4, ⟨[.agg (f86z0 x1 n2)], [], [], [], .i r3, [], [], []⟩)] ⟨27, [(0, q1aIIS x1), (3, .i (n2 : Int)), (4, .i r3)], [], [], 0⟩ (an2 ob0 (cpT (f119_ok _ _ _ _ hr3))) ?_
   refine tN ?_
   refine q1rq [] [] ⟨27, [(0, q1aIIS x1), (3, .i (n2 : Int)), (4, .i r3), (17, .bool (r3 != (0 : Int)))], [], [], 0⟩ trivial ?_
   refine AWp.cond (b := (r3 != (0 : Int))) (by kernel_rfl) (fun hc2 => ?_) (fun hc2 => ?_)
   ·
    replace h := ite_tb hc2 h
    refine q1rq [] [] ⟨27, [(2, .i r3)], [], [], 0⟩ trivial ?_
    have hret := Option.some.inj h
    subst hret
    refine AWp.le (Le.mk (s' := ⟨27, [(2, .i r3)], [], [], 0⟩) rfl rfl ⟨.refl _, trivial⟩ trivial) ?_
    refine AWp.ret ?_
    refine tR ?_
    refine kR ?_
    refine tR ?_
    refine tR ?_
    refine kR ?_
    refine joinQ_ret ?_
    exact bR _ rfl ⟨rfl, rfl⟩ rfl
   ·
    replace h := ite_fb hc2 h
    refine AWp.skip ?_
    refine tN ?_
    refine AWp.seq ?_
    obtain ⟨r4, hr4, h⟩ := bind_ok h
    obtain ⟨ob1p, h⟩ := chk_some h
    have ob1 : 0 ≤ (n2 : Int) ∧ (n2 : Int) ≤ (((x1).length : Nat) : Int) := ⟨by omega, ob1p⟩
    obtain ⟨ob2p, h⟩ := chk_some h
    have ob2 : 0 ≤ (n2 : Int) ∧ (n2 : Int) < (((x1).length : Nat) : Int) := ⟨by omega, ob2p⟩
    refine q1rr [] [(7, ⟨[q1aIIS (x1.take n2), .agg (f86z0 x1 n2)], [], [], [], .bool r4, [], [], []⟩)] ⟨27, [(0, q1aIIS x1), (3, .i (n2 : Int)), (26, .bool r4)], [], [], 0⟩ (an3 ob1 ob2 (cpL (c := true) [] [] [.arr 3 n2 (encF eIIS q1dIIS x1), .agg (f86z0 x1 n2)] (fun _ => (f120_ok _ _ _ _ _ hr4)) (fun _ => ⟨(VLe.takeL (by first | omega | (simp only [List.length_append, List.length_cons, List.length_nil, List.length_take, List.length_drop] at *; omega) | (simp; done) | (simp_all; done) | (simp_all; omega) | rfl)), .refl _, trivial⟩) (.inl rfl))) ?_
    refine tN ?_
    refine AWp.cond (b := r4) (by kernel_rfl) (fun hc3 => ?_) (fun hc3 => ?_)
    ·
     replace h := ite_tb hc3 h
     refine q1rq [] [] ⟨27, [(2, .i (5 : Int))], [], [], 0⟩ trivial ?_
     have hret := Option.some.inj h
     subst hret
     refine AWp.le (Le.mk (s' := ⟨27, [(2, .i (5 : Int))], [], [], 0⟩) rfl rfl ⟨.refl _, trivial⟩ trivial) ?_
     refine AWp.ret ?_
     refine kR ?_
     refine tR ?_
     refine tR ?_
     refine kR ?_
     refine joinQ_ret ?_
     exact bR _ rfl ⟨rfl, rfl⟩ rfl
    ·
     replace h := ite_fb hc3 h
     refine AWp.skip ?_
     refine kN ?_
     refine tN ?_
     obtain ⟨ob3p, h⟩ := chk_some h
     have ob3 : -9223372036854775808 ≤ ((n2 : Int) + (1 : Int)) ∧ ((n2 : Int) + (1 : Int)) ≤ 9223372036854775807 := ⟨by omega, ob3p⟩
     refine q1rr [] [] ⟨27, [(0, q1aIIS x1), (3, .i (((n2 + 1) : Nat) : Int))], [], [], 0⟩ (an1 ob3) ?_
     rw [hC0] at h
     exact lN (_, (n2 + 1)) (Le.mk rfl rfl ⟨.refl _, .refl _, trivial⟩ trivial) h (Nat.lt_succ_self _)
  ·
   replace h := ite_fb hc1 h
   refine AWp.exit ?_
   refine tE ?_
   refine tE ?_
   refine kS ?_
   exact jN () (Le.mk rfl rfl trivial trivial) h
 ·
  rintro ⟨⟩ h
  replace h := (congrFun hK1 _).symm.trans h
  refine q1rq [] [] ⟨27, [(2, .i (0 : Int))], [], [], 0⟩ trivial ?_
  have hret := Option.some.inj h
  subst hret
  refine AWp.le (Le.mk (s' := ⟨27, [(2, .i (0 : Int))], [], [], 0⟩) rfl rfl ⟨.refl _, trivial⟩ trivial) ?_
  refine AWp.ret ?_
  exact bR _ rfl ⟨rfl, rfl⟩ rfl
def f121 : Nat → Int → Option (List UInt8)
 | 0, _ => none
 | k + 1, x1 =>
  if (decide (x1 < (128 : Int))) then (
  chk (0 ≤ x1 ∧ x1 ≤ 255) <|
  some [UInt8.ofNat ((x1).toNat)]
  ) else (
  ((f121 k) (x1 / (128 : Int))).bind fun (r2 : List UInt8) =>
  chk (0 ≤ x1 ∧ 1 ≤ (128 : Int)) <|
  chk (-9223372036854775808 ≤ ((x1 % (128 : Int)) + (128 : Int)) ∧ ((x1 % (128 : Int)) + (128 : Int)) ≤ 9223372036854775807) <|
  chk (0 ≤ ((x1 % (128 : Int)) + (128 : Int)) ∧ ((x1 % (128 : Int)) + (128 : Int)) ≤ 255) <|
  chk (0 ≤ x1 ∧ 1 ≤ (128 : Int) ∧ -9223372036854775808 ≤ (x1 / (128 : Int)) ∧ (x1 / (128 : Int)) ≤ 9223372036854775807) <|
  chk ([UInt8.ofNat ((((x1 % (128 : Int)) + (128 : Int))).toNat)].length + r2.length ≤ 9223372036854775807) <|
  some ([UInt8.ofNat ((((x1 % (128 : Int)) + (128 : Int))).toNat)] ++ r2)
  )
theorem f121_ok : ∀ (k : Nat) (x1 : Int) (r : List UInt8), f121 k x1 = some r → Spec1 Tryz.prog 121 [] [] [] [.int .i64 x1] (.str r) [] := by
 intro k
 induction k with
 | zero => intro x1 r h; exact nomatch (show (none : Option (List UInt8)) = some r from h)
 | succ k ih =>
 intro x1 r h
 obtain ⟨Frec, hFrec⟩ : ∃ C, C = f121 k := ⟨_, rfl⟩
 rw [f121.eq_2] at h
 rw [← hFrec] at h ih
 refine Spec1.body 0 _ _ Tryz.func121 rfl Tryz.ntmps121 rfl rfl ?_
 refine q1rq [] [] ⟨19, [(0, .i x1)], [], [], 0⟩ trivial ?_
 refine AWp.seq ?_
 refine q1rq [] [] ⟨19, [(0, .i x1), (4, .bool (decide (x1 < (128 : Int))))], [], [], 0⟩ trivial ?_
 refine AWp.cond (b := (decide (x1 < (128 : Int)))) (by kernel_rfl) (fun hc1 => ?_) (fun hc1 => ?_)
 ·
  replace h := ite_tb hc1 h
  refine AWp.seq ?_
  obtain ⟨ob0, h⟩ := chk_some h
  have ob1 : ∀ i, i < 1 → isByte ((lstF 1 [.int .u8 x1]) i 0) := fun i hi => match i, hi with | 0, _ => trivial
  refine q1rr [] [] ⟨19, [(2, .str [UInt8.ofNat ((x1).toNat)])], [], [], 0⟩ (an2 ob0 ob1) ?_
  refine tN ?_
  have hret := Option.some.inj h
  subst hret
  refine AWp.le (Le.mk (s' := ⟨19, [(2, .str [UInt8.ofNat ((x1).toNat)])], [], [], 0⟩) rfl rfl ⟨.refl _, trivial⟩ trivial) ?_
  refine AWp.ret ?_
  refine tR ?_
  exact bR _ rfl ⟨rfl, rfl⟩ rfl
 ·
  replace h := ite_fb hc1 h
  refine AWp.skip ?_
  refine tN ?_
  refine AWp.seq ?_
  obtain ⟨r2, hr2, h⟩ := bind_ok h
  obtain ⟨ob2, ob3, ob4, h⟩ := ck3 h
  have ob5 : ∀ i, i < 1 → isByte ((lstF 1 [.int .u8 ((x1 % (128 : Int)) + (128 : Int))]) i 0) := fun i hi => match i, hi with | 0, _ => trivial
  obtain ⟨ob6, ob7, h⟩ := ck2 h
  refine q1rr [] [(8, ⟨[.i (x1 / (128 : Int))], [], [], [], .str r2, [], [], []⟩)] ⟨19, [(2, .str ([UInt8.ofNat ((((x1 % (128 : Int)) + (128 : Int))).toNat)] ++ r2))], [], [], 0⟩ (ac6 ob2 ob3 ob4 ob5 ob6 (cpT (ih _ _ hr2)) (an1 ob7)) ?_
  refine tN ?_
  have hret := Option.some.inj h
  subst hret
  refine AWp.le (Le.mk (s' := ⟨19, [(2, .str ([UInt8.ofNat ((((x1 % (128 : Int)) + (128 : Int))).toNat)] ++ r2))], [], [], 0⟩) rfl rfl ⟨.refl _, trivial⟩ trivial) ?_
  refine AWp.ret ?_
  exact bR _ rfl ⟨rfl, rfl⟩ rfl
def f87_L0 (x1 : List (List UInt8)) (K1 : (List UInt8) → Option (List UInt8)) : Nat → (List UInt8 × Nat) → Option (List UInt8)
 | 0, _ => none
 | k + 1, (s3, n4) =>
  if (decide ((n4 : Int) < (((x1).length : Nat) : Int))) then (
  (f121 FUEL (((x1.getD n4 []).length : Nat) : Int)).bind fun (r5 : List UInt8) =>
  chk ((n4 : Int) < (((x1).length : Nat) : Int)) <|
  chk (s3.length + r5.length ≤ 9223372036854775807) <|
  chk ((n4 : Int) < (((x1).length : Nat) : Int)) <|
  chk ((s3 ++ r5).length + (x1.getD n4 []).length ≤ 9223372036854775807) <|
  chk (((n4 : Int) + (1 : Int)) ≤ 9223372036854775807) <|
  (f87_L0 x1 K1 k) (((s3 ++ r5) ++ (x1.getD n4 [])), (n4 + 1))
  ) else (
  K1 s3
  )
def f87 (x1 : List (List UInt8)) : Option (List UInt8) :=
 (f121 FUEL (((x1).length : Nat) : Int)).bind fun (r2 : List UInt8) =>
 jn (fun (s6 : List UInt8) =>
 some s6
 ) fun (K1 : (List UInt8) → Option (List UInt8)) =>
 f87_L0 x1 K1 FUEL (r2, 0)
theorem f87_ok  (x1 : List (List UInt8)) (r : List UInt8) (h : f87 x1 = some r)  : Spec1 Tryz.prog 87 [] [] [] [vL 1 eS [] x1] (.str r) [] := by
 unfold f87 at h
 refine Spec1.body 0 _ _ Tryz.func87 rfl Tryz.ntmps87 rfl rfl ?_
 refine q1rq [] [] ⟨28, [(0, q1aS x1)], [], [], 0⟩ trivial ?_
 refine AWp.seq ?_
 obtain ⟨r2, hr2, h⟩ := bind_ok h
 refine q1rr [] [(2, ⟨[.i (lZ x1)], [], [], [], .str r2, [], [], []⟩)] ⟨28, [(0, q1aS x1), (3, .str r2)], [], [], 0⟩ (an1 (cpT (f121_ok FUEL _ _ hr2))) ?_
 refine tN ?_
 obtain ⟨K1, hK1, h⟩ := jn_some h
 refine AWp.join (α := List UInt8) (fun (s6 : List UInt8) => ⟨28, [(3, .str s6)], [], [], 0⟩) (fun x => K1 x = some r) ?_ ?_
 ·
  refine q1rq [] [] ⟨28, [(0, q1aS x1), (3, .str r2), (4, .i (0 : Int))], [], [], 0⟩ trivial ?_
  refine AWp.block ?_
  refine AWp.loopL (α := Nat × (List UInt8 × Nat)) (fun x => match x with | (_, s3, n4) => ⟨28, [(0, q1aS x1), (3, .str s3), (4, .i (n4 : Int))], [], [], 0⟩) (fun x => f87_L0 x1 K1 x.1 x.2 = some r) (fun x => x.1) (FUEL, r2, 0) (Le.mk (s' := ⟨28, [(0, q1aS x1), (3, .str r2), (4, .i (0 : Int))], [], [], 0⟩) rfl rfl ⟨.refl _, .refl _, .refl _, trivial⟩ trivial) h ?_
  rintro ⟨k0, s3, n4⟩ h
  cases k0 with
  | zero => exact nomatch (show (none : Option (List UInt8)) = some r from h)
  | succ k0 =>
  obtain ⟨C0, hC0⟩ : ∃ C, C = f87_L0 x1 K1 k0 := ⟨_, rfl⟩
  replace h := (f87_L0.eq_2 ..).symm.trans h
  try rw [← hC0] at h
  refine AWp.seq ?_
  refine q1rq [] [] ⟨28, [(0, q1aS x1), (3, .str s3), (4, .i (n4 : Int)), (11, .bool (decide ((n4 : Int) < (lZ x1))))], [], [], 0⟩ trivial ?_
  refine AWp.cond (b := (decide ((n4 : Int) < (lZ x1)))) (by kernel_rfl) (fun hc1 => ?_) (fun hc1 => ?_)
  ·
   replace h := ite_tb hc1 h
   refine AWp.skip ?_
   refine tN ?_
   refine AWp.seq ?_
   refine AWp.block ?_
   obtain ⟨r5, hr5, h⟩ := bind_ok h
   obtain ⟨ob0p, h⟩ := chk_some h
   have ob0 : 0 ≤ (n4 : Int) ∧ (n4 : Int) < (((x1).length : Nat) : Int) := ⟨by omega, ob0p⟩
   obtain ⟨ob1, ob2p, h⟩ := ck2 h
   have ob2 : 0 ≤ (n4 : Int) ∧ (n4 : Int) < (((x1).length : Nat) : Int) := ⟨by omega, ob2p⟩
   obtain ⟨ob3, h⟩ := chk_some h
   refine q1rr [] [(6, ⟨[.i (((x1.getD n4 []).length : Nat) : Int)], [], [], [], .str r5, [], [], []⟩)] ⟨28, [(0, q1aS x1), (3, .str ((s3 ++ r5) ++ (x1.getD n4 []))), (4, .i (n4 : Int))], [], [], 0⟩ (an5 ob0 (cpT (f121_ok FUEL _ _ hr5)) ob1 ob2 ob3) ?_
   refine kN ?_
   refine tN ?_
   obtain ⟨ob4p, h⟩ := chk_some h
   have ob4 : -9223372036854775808 ≤ ((n4 : Int) + (1 : Int)) ∧ ((n4 : Int) + (1 : Int)) ≤ 9223372036854775807 := ⟨by omega, ob4p⟩
   refine q1rr [] [] ⟨28, [(0, q1aS x1), (3, .str ((s3 ++ r5) ++ (x1.getD n4 []))), (4, .i (((n4 + 1) : Nat) : Int))], [], [], 0⟩ (an1 ob4) ?_
   rw [hC0] at h
   exact lN (_, ((s3 ++ r5) ++ (x1.getD n4 [])), (n4 + 1)) (Le.mk rfl rfl ⟨.refl _, .refl _, .refl _, trivial⟩ trivial) h (Nat.lt_succ_self _)
  ·
   replace h := ite_fb hc1 h
   refine AWp.exit ?_
   refine tE ?_
   refine tE ?_
   refine kS ?_
   exact jN (s3) (Le.mk rfl rfl ⟨.refl _, trivial⟩ trivial) h
 ·
  rintro s6 h
  replace h := (congrFun hK1 _).symm.trans h
  refine q1rq [] [] ⟨28, [(2, .str s6)], [], [], 0⟩ trivial ?_
  have hret := Option.some.inj h
  subst hret
  refine AWp.le (Le.mk (s' := ⟨28, [(2, .str s6)], [], [], 0⟩) rfl rfl ⟨.refl _, trivial⟩ trivial) ?_
  refine AWp.ret ?_
  exact bR _ rfl ⟨rfl, rfl⟩ rfl
def f65_L0 (x3 : List Tq2) (K1 : (List (List UInt8)) → Option (List UInt8)) : Nat → (Nat × List (List UInt8)) → Option (List UInt8)
 | 0, _ => none
 | k + 1, (n7, l8) =>
  if (decide ((n7 : Int) < (((x3).length : Nat) : Int))) then (
  chk ((n7 : Int) < (((x3).length : Nat) : Int)) <|
  (f88 FUEL ((x3.getD n7 (default : Tq2)).1)).bind fun (r9 : List UInt8) =>
  (f88 FUEL ((x3.getD n7 (default : Tq2)).2.1)).bind fun (r10 : List UInt8) =>
  chk (((l8).length + 3) * 16 ≤ 140737488355328) <|
  chk (((n7 : Int) + (1 : Int)) ≤ 9223372036854775807) <|
  (f65_L0 x3 K1 k) ((n7 + 1), (l8 ++ [r9, r10, (x3.getD n7 (default : Tq2)).2.2]))
  ) else (
  K1 l8
  )
abbrev f65z0 (x1 : Int) (x2 : Int) (x3 : List Tq2) : List V := [.int .i64 x1, .int .i64 x2, vL 3 eIIS (default : Tq2) x3]
abbrev f65z1 (x3 : List Tq2) (n7 : Nat) := (x3.getD n7 (default : Tq2))
abbrev f65z2 (n7 : Nat) : List (Nat × V) := [(1, .ptr 1 0), (3, .own 19), (4, .int .i64 (n7 : Int))]
def f65 (x1 : Int) (x2 : Int) (x3 : List Tq2) : Option (List UInt8) :=
 if (x1 == (2 : Int)) then (
 (f88 FUEL x2).bind fun (r4 : List UInt8) =>
 (f87 ([([106, 111, 105, 110] : List UInt8), r4])).bind fun (r5 : List UInt8) =>
 some r5
 ) else (
 if (x1 == (3 : Int)) then (
 (f87 [cs1]).bind fun (r6 : List UInt8) =>
 some r6
 ) else (
 jn (fun (l11 : List (List UInt8)) =>
 (f87 l11).bind fun (r12 : List UInt8) =>
 some r12
 ) fun (K1 : (List (List UInt8)) → Option (List UInt8)) =>
 f65_L0 x3 K1 FUEL (0, [cs2])
 )
 )
theorem f65_ok  (x1 : Int) (x2 : Int) (x3 : List Tq2) (r : List UInt8) (h : f65 x1 x2 x3 = some r)  : Spec1 Tryz.prog 65 [] [] [] [.agg [.int .i64 x1, .int .i64 x2, vL 3 eIIS (default : Tq2) x3]] (.str r) [] := by
 unfold f65 at h
 refine Spec1.body 0 _ _ Tryz.func65 rfl Tryz.ntmps65 rfl rfl ?_
 refine q1rq [] [] ⟨45, [(1, .ptr 1 0)], [(1, .cells 100 (f65z0 x1 x2 x3))], [], 0⟩ trivial ?_
 refine AWp.seq ?_
 refine q1rq [] [] ⟨45, [(1, .ptr 1 0), (7, .i x1)], [(1, .cells 100 (f65z0 x1 x2 x3))], [], 0⟩ trivial ?_
 refine AWp.block ?_
 refine q1rq [] [] ⟨45, [(1, .ptr 1 0), (7, .i x1), (8, .bool (x1 == (2 : Int)))], [(1, .cells 100 (f65z0 x1 x2 x3))], [], 0⟩ trivial ?_
 refine AWp.cond (b := (x1 == (2 : Int))) (by kernel_rfl) (fun hc1 => ?_) (fun hc1 => ?_)
 ·
  replace h := ite_tb hc1 h
  refine AWp.seq ?_
  obtain ⟨r4, hr4, h⟩ := bind_ok h
  obtain ⟨r5, hr5, h⟩ := bind_ok h
  refine q1rr [] [(2, ⟨[.i x2], [], [], [], .str r4, [], [], []⟩), (4, ⟨[q1aS [([106, 111, 105, 110] : List UInt8), r4]], [], [], [], .str r5, [], [13], []⟩)] ⟨45, [(2, .str r5)], [], [], 0⟩ (an2 (cpT (f88_ok FUEL _ _ hr4)) (cpL (c := true) [(13, .rows 9 1 2 (lstF 1 [.str ([106, 111, 105, 110] : List UInt8), .str r4]))] [13] [.own 13] (fun _ => (f87_ok _ _ hr5)) (fun _ => ⟨(VLe.of (RL.lst (enc := eS) [([106, 111, 105, 110] : List UInt8), r4] rfl rfl (fun _ => rfl))), trivial⟩) (.inr ⟨rfl, trivial⟩))) ?_
  refine tN ?_
  have hret := Option.some.inj h
  subst hret
  refine AWp.le (Le.mk (s' := ⟨45, [(2, .str r5)], [], [], 0⟩) rfl rfl ⟨.refl _, trivial⟩ trivial) ?_
  refine AWp.ret ?_
  refine kR ?_
  refine tR ?_
  exact bR _ rfl ⟨rfl, rfl⟩ rfl
 ·
  replace h := ite_fb hc1 h
  refine q1rq [] [] ⟨45, [(1, .ptr 1 0), (15, .bool (x1 == (3 : Int)))], [(1, .cells 100 (f65z0 x1 x2 x3))], [], 0⟩ trivial ?_
  refine AWp.cond (b := (x1 == (3 : Int))) (by kernel_rfl) (fun hc2 => ?_) (fun hc2 => ?_)
  ·
   replace h := ite_tb hc2 h
   refine AWp.seq ?_
   obtain ⟨r6, hr6, h⟩ := bind_ok h
   refine q1rr [] [(1, ⟨[q1aS [cs1]], [], [], [], .str r6, [], [17], []⟩)] ⟨45, [(2, .str r6)], [], [], 0⟩ (an1 (cpL (c := true) [(17, .rows 9 1 1 (lstF 1 [.str cs1]))] [17] [.own 17] (fun _ => (f87_ok _ _ hr6)) (fun _ => ⟨(VLe.of (RL.lst (enc := eS) [cs1] rfl rfl (fun _ => rfl))), trivial⟩) (.inr ⟨rfl, trivial⟩))) ?_
   refine tN ?_
   have hret := Option.some.inj h
   subst hret
   refine AWp.le (Le.mk (s' := ⟨45, [(2, .str r6)], [], [], 0⟩) rfl rfl ⟨.refl _, trivial⟩ trivial) ?_
   refine AWp.ret ?_
   refine kR ?_
   refine tR ?_
   exact bR _ rfl ⟨rfl, rfl⟩ rfl
  ·
   replace h := ite_fb hc2 h
   refine AWp.skip ?_
   refine kN ?_
   refine tN ?_
   refine q1rq [] [] ⟨45, [(1, .ptr 1 0), (3, .own 19)], [(1, .cells 100 (f65z0 x1 x2 x3)), (19, .rows 9 1 1 (lstF 1 [.str cs2]))], [], 0⟩ trivial ?_
   refine AWp.le (Le.mk (s' := ⟨45, [(1, .ptr 1 0), (3, .own 19)], [(1, .cells 100 (f65z0 x1 x2 x3)), (19, q1bS_9 [cs2])], [], 0⟩) rfl rfl ⟨.refl _, .refl _, trivial⟩ ⟨⟨_, rfl, .refl _⟩, ⟨_, rfl, (BLe.of (RL.lst (enc := eS) [cs2] rfl rfl (fun _ => rfl)))⟩, trivial⟩) ?_
   obtain ⟨K1, hK1, h⟩ := jn_some h
   refine AWp.join (α := List (List UInt8)) (fun (l11 : List (List UInt8)) => ⟨45, [(3, .own 19)], [(19, q1bS_9 l11)], [], 0⟩) (fun x => K1 x = some r) ?_ ?_
   ·
    refine q1rq [] [] ⟨45, [(1, .ptr 1 0), (3, .own 19), (4, .i (0 : Int))], [(1, .cells 100 (f65z0 x1 x2 x3)), (19, q1bS_9 [cs2])], [], 0⟩ trivial ?_
    refine AWp.block ?_
    refine AWp.loopL (α := Nat × (Nat × List (List UInt8))) (fun x => match x with | (_, n7, l8) => ⟨45, (f65z2 n7), [(1, .cells 100 (f65z0 x1 x2 x3)), (19, q1bS_9 l8)], [], 0⟩) (fun x => f65_L0 x3 K1 x.1 x.2 = some r) (fun x => x.1) (FUEL, 0, [cs2]) (Le.mk (s' := ⟨45, [(1, .ptr 1 0), (3, .own 19), (4, .i (0 : Int))], [(1, .cells 100 (f65z0 x1 x2 x3)), (19, q1bS_9 [cs2])], [], 0⟩) rfl rfl ⟨.refl _, .refl _, .refl _, trivial⟩ ⟨⟨_, rfl, .refl _⟩, ⟨_, rfl, .refl _⟩, trivial⟩) h ?_
    rintro ⟨k0, n7, l8⟩ h
    cases k0 with
    | zero => exact nomatch (show (none : Option (List UInt8)) = some r from h)
    | succ k0 =>
    obtain ⟨C0, hC0⟩ : ∃ C, C = f65_L0 x3 K1 k0 := ⟨_, rfl⟩
    replace h := (f65_L0.eq_2 ..).symm.trans h
    try rw [← hC0] at h
    refine AWp.seq ?_
    refine q1rq [] [] ⟨45, [(1, .ptr 1 0), (3, .own 19), (4, .i (n7 : Int)), (24, .bool (decide ((n7 : Int) < (lZ x3))))], [(1, .cells 100 (f65z0 x1 x2 x3)), (19, q1bS_9 l8)], [], 0⟩ trivial ?_
    refine AWp.cond (b := (decide ((n7 : Int) < (lZ x3)))) (by kernel_rfl) (fun hc3 => ?_) (fun hc3 => ?_)
    ·
     replace h := ite_tb hc3 h
     refine AWp.skip ?_
     refine tN ?_
     refine AWp.seq ?_
     refine AWp.block ?_
     refine AWp.seq ?_
     obtain ⟨ob0p, h⟩ := chk_some h
     have ob0 : 0 ≤ (n7 : Int) ∧ (n7 : Int) < (((x3).length : Nat) : Int) := ⟨by omega, ob0p⟩
     refine q1rr [] [] ⟨45, [(1, .ptr 1 0), (3, .own 19), (4, .i (n7 : Int)), (5, .ptr 5 0)], [(1, .cells 100 (f65z0 x1 x2 x3)), (5, .cells 88 [.i (f65z1 x3 n7).1, .i (f65z1 x3 n7).2.1, .str (f65z1 x3 n7).2.2]), (19, q1bS_9 l8)], [], 0⟩ (an2 ob0 trivial) ?_
     refine tN ?_
     obtain ⟨r9, hr9, h⟩ := bind_ok h
     obtain ⟨r10, hr10, h⟩ := bind_ok h
     obtain ⟨ob1, h⟩ := chk_some h
     refine q1rr [] [(3, ⟨[.i (f65z1 x3 n7).1], [], [], [], .str r9, [], [], []⟩), (6, ⟨[.i (f65z1 x3 n7).2.1], [], [], [], .str r10, [], [], []⟩)] ⟨45, (f65z2 n7), [(1, .cells 100 (f65z0 x1 x2 x3)), (19, .rows 9 1 ((l8).length + 3) (appF (l8).length (encF eS [] l8) (lstF 1 [.str r9, .str r10, .str (f65z1 x3 n7).2.2])))], [], 0⟩ (an3 (cpT (f88_ok FUEL _ _ hr9)) (cpT (f88_ok FUEL _ _ hr10)) ob1) ?_
     refine kN ?_
     refine tN ?_
     refine AWp.le (Le.mk (s' := ⟨45, (f65z2 n7), [(1, .cells 100 (f65z0 x1 x2 x3)), (19, q1bS_9 (l8 ++ [r9, r10, (f65z1 x3 n7).2.2]))], [], 0⟩) rfl rfl ⟨.refl _, .refl _, .refl _, trivial⟩ ⟨⟨_, rfl, .refl _⟩, ⟨_, rfl, (BLe.of (RL.app (RL.self _) (RL.lst (enc := eS) [r9, r10, (f65z1 x3 n7).2.2] rfl rfl (fun _ => rfl))))⟩, trivial⟩) ?_
     obtain ⟨ob2p, h⟩ := chk_some h
     have ob2 : -9223372036854775808 ≤ ((n7 : Int) + (1 : Int)) ∧ ((n7 : Int) + (1 : Int)) ≤ 9223372036854775807 := ⟨by omega, ob2p⟩
     refine q1rr [] [] ⟨45, [(1, .ptr 1 0), (3, .own 19), (4, .i (((n7 + 1) : Nat) : Int))], [(1, .cells 100 (f65z0 x1 x2 x3)), (19, q1bS_9 (l8 ++ [r9, r10, (f65z1 x3 n7).2.2]))], [], 0⟩ (an1 ob2) ?_
     rw [hC0] at h
     exact lN (_, (n7 + 1), (l8 ++ [r9, r10, (f65z1 x3 n7).2.2])) (Le.mk rfl rfl ⟨.refl _, .refl _, .refl _, trivial⟩ ⟨⟨_, rfl, .refl _⟩, ⟨_, rfl, .refl _⟩, trivial⟩) h (Nat.lt_succ_self _)
    ·
     replace h := ite_fb hc3 h
     refine AWp.exit ?_
     refine tE ?_
     refine tE ?_
     refine kS ?_
     exact jN (l8) (Le.mk rfl rfl ⟨.refl _, trivial⟩ ⟨⟨_, rfl, .refl _⟩, trivial⟩) h
   ·
    rintro l11 h
    replace h := (congrFun hK1 _).symm.trans h
    refine AWp.seq ?_
    obtain ⟨r12, hr12, h⟩ := bind_ok h
    refine q1rr [] [(1, ⟨[q1aS l11], [], [], [], .str r12, [], [19], []⟩)] ⟨45, [(2, .str r12)], [], [], 0⟩ (an1 (cpL (c := true) [(19, q1bS_9 l11)] [19] [.own 19] (fun _ => (f87_ok _ _ hr12)) (fun _ => ⟨.refl _, trivial⟩) (.inr ⟨rfl, trivial⟩))) ?_
    refine tN ?_
    have hret := Option.some.inj h
    subst hret
    refine AWp.le (Le.mk (s' := ⟨45, [(2, .str r12)], [], [], 0⟩) rfl rfl ⟨.refl _, trivial⟩ trivial) ?_
    refine AWp.ret ?_
    exact bR _ rfl ⟨rfl, rfl⟩ rfl
abbrev f64z0 (x1 : Int) (x2 : Int) := (((((!(x1 == (1 : Int))) && (!(x1 == (2 : Int)))) && (x1 != (3 : Int))) || ((!(x1 == (2 : Int))) && (x2 != (0 : Int)))) || (decide (x2 < (0 : Int))))
abbrev f64z1 (x1 : Int) := (((!(x1 == (1 : Int))) && (!(x1 == (2 : Int)))) && (x1 != (3 : Int)))
abbrev f64z2 (x1 : Int) (x2 : Int) := (((f64z0 x1 x2) || (decide (x2 ≥ (6 : Int)))) == false)
abbrev f64z3 (x1 : Int) (x2 : Int) (x3 : List Tq2) : Heap := [(1, .cells 100 [.int .i64 x1, .int .i64 x2, vL 3 eIIS (default : Tq2) x3])]
abbrev f64z4 (x1 : Int) (x2 : Int) := ((f64z1 x1) || ((!(x1 == (2 : Int))) && (x2 != (0 : Int))))
abbrev f64z5 (x1 : Int) := (((!(x1 == (1 : Int))) && (!(x1 == (2 : Int)))) == true)
abbrev f64z6 (x1 : Int) (x2 : Int) := ((f64z2 x1 x2) && ((!(x1 == (1 : Int))) == true))
abbrev f64z7 (x1 : Int) := (((f64z1 x1) == false) && ((!(x1 == (2 : Int))) == true))
def f64 (x1 : Int) (x2 : Int) (x3 : List Tq2) : Option Int :=
 chk (((((!(x1 == (1 : Int))) && (!(x1 == (2 : Int)))) && (x1 != (3 : Int))) == false) = true → ((((!(x1 == (1 : Int))) && (!(x1 == (2 : Int)))) && (x1 != (3 : Int))) == false) = true → (!(x1 == (2 : Int))) = true → (((((!(x1 == (1 : Int))) && (!(x1 == (2 : Int)))) && (x1 != (3 : Int))) == false) && ((!(x1 == (2 : Int))) == true)) = true) <|
 chk ((((((((!(x1 == (1 : Int))) && (!(x1 == (2 : Int)))) && (x1 != (3 : Int))) || ((!(x1 == (2 : Int))) && (x2 != (0 : Int)))) || (decide (x2 < (0 : Int)))) || (decide (x2 ≥ (6 : Int)))) == false) = true → (((((((!(x1 == (1 : Int))) && (!(x1 == (2 : Int)))) && (x1 != (3 : Int))) || ((!(x1 == (2 : Int))) && (x2 != (0 : Int)))) || (decide (x2 < (0 : Int)))) || (decide (x2 ≥ (6 : Int)))) == false) = true → (!(x1 == (1 : Int))) = true → ((((((((!(x1 == (1 : Int))) && (!(x1 == (2 : Int)))) && (x1 != (3 : Int))) || ((!(x1 == (2 : Int))) && (x2 != (0 : Int)))) || (decide (x2 < (0 : Int)))) || (decide (x2 ≥ (6 : Int)))) == false) && ((!(x1 == (1 : Int))) == true)) = true) <|
 if (((((((!(x1 == (1 : Int))) && (!(x1 == (2 : Int)))) && (x1 != (3 : Int))) || ((!(x1 == (2 : Int))) && (x2 != (0 : Int)))) || (decide (x2 < (0 : Int)))) || (decide (x2 ≥ (6 : Int)))) || ((!(x1 == (1 : Int))) && (decide ((((x3).length : Nat) : Int) > (0 : Int))))) then (
 some (1 : Int)
 ) else (
 if (decide ((((x3).length : Nat) : Int) > (8 : Int))) then (
 some (3 : Int)
 ) else (
 (f86 x3).bind fun (r4 : Int) =>
 if (r4 != (0 : Int)) then (
 some r4
 ) else (
 (f65 x1 x2 x3).bind fun (r5 : List UInt8) =>
 if (decide (((r5.length : Nat) : Int) > (2000 : Int))) then (
 some (3 : Int)
 ) else (
 some (0 : Int)
 )
 )
 )
 )
theorem f64_ok  (x1 : Int) (x2 : Int) (x3 : List Tq2) (r : Int) (h : f64 x1 x2 x3 = some r)  : Spec1 Tryz.prog 64 [] [] [] [.agg [.int .i64 x1, .int .i64 x2, vL 3 eIIS (default : Tq2) x3]] (.int .i64 r) [] := by
 unfold f64 at h
 refine Spec1.body 0 _ _ Tryz.func64 rfl Tryz.ntmps64 rfl rfl ?_
 refine q1rq [] [] ⟨66, [(1, .ptr 1 0)], (f64z3 x1 x2 x3), [], 0⟩ trivial ?_
 refine q1rq [] [] ⟨66, [(1, .ptr 1 0), (3, .bool (x1 == (1 : Int)))], (f64z3 x1 x2 x3), [], 0⟩ trivial ?_
 refine q1rq [] [] ⟨66, [(1, .ptr 1 0), (3, .bool (x1 == (1 : Int))), (4, .bool (x1 == (2 : Int)))], (f64z3 x1 x2 x3), [], 0⟩ trivial ?_
 refine AWp.seq ?_
 refine AWp.seq ?_
 have ob0 := idA (((!(x1 == (1 : Int))) == true) = true)
 have ob1 := bqA (!(x1 == (1 : Int))) true
 have ob2 := idA ((f64z5 x1) = true)
 have ob3 := idA ((f64z5 x1) = true)
 have ob4 : true = true → ((!(x1 == (1 : Int))) && (!(x1 == (2 : Int)))) = true → (f64z5 x1) = true := fun _ h => beq_iff_eq.2 h
 have ob5 := idA (((f64z1 x1) == false) = true)
 have ob6 := idA (((f64z1 x1) == false) = true)
 have ob7 := idA ((f64z7 x1) = true)
 have ob8 := idA ((f64z7 x1) = true)
 obtain ⟨ob9, h⟩ := chk_some h
 have ob10 := idA (((f64z1 x1) == false) = true)
 have ob11 := bqA (f64z1 x1) false
 have ob12 := idA (((f64z4 x1 x2) == false) = true)
 have ob13 := idA (((f64z4 x1 x2) == false) = true)
 have ob14 := bqA (f64z4 x1 x2) false
 have ob15 := idA (((f64z0 x1 x2) == false) = true)
 have ob16 := idA (((f64z0 x1 x2) == false) = true)
 have ob17 := bqA (f64z0 x1 x2) false
 have ob18 := idA ((f64z2 x1 x2) = true)
 have ob19 := idA ((f64z2 x1 x2) = true)
 have ob20 := idA ((f64z6 x1 x2) = true)
 have ob21 := idA ((f64z6 x1 x2) = true)
 have ob22 := idA ((f64z6 x1 x2) = true)
 obtain ⟨ob23, h⟩ := chk_some h
 have ob24 := idA ((f64z2 x1 x2) = true)
 have ob25 : true = true → ((f64z0 x1 x2) || (decide (x2 ≥ (6 : Int)))) = false → (f64z2 x1 x2) = true := fun _ h => beq_iff_eq.2 h
 refine q1rr [] [] ⟨66, [(1, .ptr 1 0), (51, .bool (((f64z0 x1 x2) || (decide (x2 ≥ (6 : Int)))) || ((!(x1 == (1 : Int))) && (decide ((lZ x3) > (0 : Int))))))], (f64z3 x1 x2 x3), [], 0⟩ (ac6 (an1 ob0) ob1 (an1 ob2) (an1 ob3) ob4 (an1 ob5) (ac6 (an1 ob6) (an1 ob7) (an1 ob8) (And.intro ob9 (an1 ob10)) ob11 (an1 ob12) (ac6 (an1 ob13) ob14 (an1 ob15) (an1 ob16) ob17 (an1 ob18) (an6 (an1 ob19) (an1 ob20) (an1 ob21) (an1 ob22) (And.intro ob23 (an1 ob24)) ob25)))) ?_
 refine tN ?_
 refine AWp.cond (b := (((f64z0 x1 x2) || (decide (x2 ≥ (6 : Int)))) || ((!(x1 == (1 : Int))) && (decide ((lZ x3) > (0 : Int)))))) (by kernel_rfl) (fun hc1 => ?_) (fun hc1 => ?_)
 ·
  replace h := ite_tb hc1 h
  refine q1rq [] [] ⟨66, [(2, .i (1 : Int))], [], [], 0⟩ trivial ?_
  have hret := Option.some.inj h
  subst hret
  refine AWp.le (Le.mk (s' := ⟨66, [(2, .i (1 : Int))], [], [], 0⟩) rfl rfl ⟨.refl _, trivial⟩ trivial) ?_
  refine AWp.ret ?_
  refine tR ?_
  exact bR _ rfl ⟨rfl, rfl⟩ rfl
 ·
  replace h := ite_fb hc1 h
  refine AWp.skip ?_
  refine tN ?_
  refine AWp.seq ?_
  refine q1rq [] [] ⟨66, [(1, .ptr 1 0), (55, .bool (decide ((lZ x3) > (8 : Int))))], (f64z3 x1 x2 x3), [], 0⟩ trivial ?_
  refine AWp.cond (b := (decide ((lZ x3) > (8 : Int)))) (by kernel_rfl) (fun hc2 => ?_) (fun hc2 => ?_)
  ·
   replace h := ite_tb hc2 h
   refine q1rq [] [] ⟨66, [(2, .i (3 : Int))], [], [], 0⟩ trivial ?_
   have hret := Option.some.inj h
   subst hret
   refine AWp.le (Le.mk (s' := ⟨66, [(2, .i (3 : Int))], [], [], 0⟩) rfl rfl ⟨.refl _, trivial⟩ trivial) ?_
   refine AWp.ret ?_
   refine tR ?_
   exact bR _ rfl ⟨rfl, rfl⟩ rfl
  ·
   replace h := ite_fb hc2 h
   refine AWp.skip ?_
   refine tN ?_
   refine AWp.seq ?_
   refine AWp.seq ?_
   obtain ⟨r4, hr4, h⟩ := bind_ok h
   refine q1rr [] [(2, ⟨[q1aIIS x3], [], [], [], .i r4, [], [], []⟩)] ⟨66, [(1, .ptr 1 0), (5, .i r4)], (f64z3 x1 x2 x3), [], 0⟩ (an1 (cpT (f86_ok _ _ hr4))) ?_
   refine tN ?_
   refine q1rq [] [] ⟨66, [(1, .ptr 1 0), (5, .i r4), (60, .bool (r4 != (0 : Int)))], (f64z3 x1 x2 x3), [], 0⟩ trivial ?_
   refine AWp.cond (b := (r4 != (0 : Int))) (by kernel_rfl) (fun hc3 => ?_) (fun hc3 => ?_)
   ·
    replace h := ite_tb hc3 h
    refine q1rq [] [] ⟨66, [(2, .i r4)], [], [], 0⟩ trivial ?_
    have hret := Option.some.inj h
    subst hret
    refine AWp.le (Le.mk (s' := ⟨66, [(2, .i r4)], [], [], 0⟩) rfl rfl ⟨.refl _, trivial⟩ trivial) ?_
    refine AWp.ret ?_
    refine tR ?_
    exact bR _ rfl ⟨rfl, rfl⟩ rfl
   ·
    replace h := ite_fb hc3 h
    refine AWp.skip ?_
    refine tN ?_
    refine AWp.seq ?_
    refine AWp.seq ?_
    obtain ⟨r5, hr5, h⟩ := bind_ok h
    refine q1rr [] [(1, ⟨[.agg [.i x1, .i x2, q1aIIS x3]], [], [], [], .str r5, [], [], []⟩)] ⟨66, [(65, .bool (decide ((lZ r5) > (2000 : Int))))], [], [], 0⟩ (an1 (cpT (f65_ok _ _ _ _ hr5))) ?_
    refine tN ?_
    refine AWp.cond (b := (decide ((lZ r5) > (2000 : Int)))) (by kernel_rfl) (fun hc4 => ?_) (fun hc4 => ?_)
    ·
     replace h := ite_tb hc4 h
     refine q1rq [] [] ⟨66, [(2, .i (3 : Int))], [], [], 0⟩ trivial ?_
     have hret := Option.some.inj h
     subst hret
     refine AWp.le (Le.mk (s' := ⟨66, [(2, .i (3 : Int))], [], [], 0⟩) rfl rfl ⟨.refl _, trivial⟩ trivial) ?_
     refine AWp.ret ?_
     refine tR ?_
     exact bR _ rfl ⟨rfl, rfl⟩ rfl
    ·
     replace h := ite_fb hc4 h
     refine AWp.skip ?_
     refine tN ?_
     refine q1rq [] [] ⟨66, [(2, .i (0 : Int))], [], [], 0⟩ trivial ?_
     have hret := Option.some.inj h
     subst hret
     refine AWp.le (Le.mk (s' := ⟨66, [(2, .i (0 : Int))], [], [], 0⟩) rfl rfl ⟨.refl _, trivial⟩ trivial) ?_
     refine AWp.ret ?_
     exact bR _ rfl ⟨rfl, rfl⟩ rfl
def f61_L0 (r2 : Bool × List (List UInt8)) (K1 : (Nat × Int × (List Tq2)) → Option (Int × Int × (List Tq2) × Int)) : Nat → (Nat × (List Tq2)) → Option (Int × Int × (List Tq2) × Int)
 | 0, _ => none
 | k + 1, (n7, l8) =>
  if (decide ((n7 : Int) < (((r2.2).length : Nat) : Int))) then (
  (f82 (r2.2.getD n7 [])).bind fun (r9 : Int) =>
  (f82 (r2.2.getD (n7 + 1) [])).bind fun (r10 : Int) =>
  chk ((n7 : Int) < (((r2.2).length : Nat) : Int)) <|
  chk (n7 < (r2.2).length) <|
  chk (((n7 : Int) + (1 : Int)) ≤ 9223372036854775807) <|
  chk ((((n7 + 1) : Nat) : Int) < (((r2.2).length : Nat) : Int)) <|
  chk ((n7 + 1) < (r2.2).length) <|
  chk (((n7 : Int) + (2 : Int)) ≤ 9223372036854775807) <|
  chk ((((n7 + 2) : Nat) : Int) < (((r2.2).length : Nat) : Int)) <|
  chk ((n7 + 2) < (r2.2).length) <|
  chk (((l8).length + 1) * 32 ≤ 140737488355328) <|
  chk (((n7 : Int) + (3 : Int)) ≤ 9223372036854775807) <|
  (f61_L0 r2 K1 k) ((n7 + 3), (l8 ++ [(r9, r10, (r2.2.getD (n7 + 2) []))]))
  ) else (
  K1 (1, (0 : Int), l8)
  )
abbrev f61z0 : List V := [.int .i64 (0 : Int), .int .i64 (0 : Int), .nils]
abbrev f61z1 : List V := [.int .i64 (1 : Int), .int .i64 (0 : Int), .own 6102]
abbrev f61z2 (x1 : List UInt8) : List (Nat × V) := [(0, .str x1), (2, .ptr 2 0), (6, .ptr 6 0)]
abbrev f61z3 (r2 : Bool × List (List UInt8)) : Heap := [(2, .cells 100 (f61z0)), (6, .cells 100 (f61z0)), (6001, bL 9 1 eS [] r2.2)]
abbrev f61z4 (x1 : List UInt8) (r2 : Bool × List (List UInt8)) : List (Nat × V) := [(0, .str x1), (2, .ptr 2 0), (4, .own 6001), (6, .ptr 6 0), (43, .bool (((r2.2.getD 0 []) == cs2) && (((((r2.2).length % 3) : Nat) : Int) == (1 : Int))))]
abbrev f61z5 (x1 : List UInt8) : List (Nat × V) := [(0, .str x1), (2, .ptr 2 0), (4, .own 6001), (6, .ptr 6 0), (7, .int .i64 (1 : Int))]
abbrev f61z6 := ([106, 111, 105, 110] : List UInt8)
abbrev f61z7 (r2 : Bool × List (List UInt8)) (l8 : List Tq2) (r9 : Int) (r10 : Int) (n7 : Nat) : Heap := [(2, .cells 100 (f61z0)), (6, .cells 100 (f61z1)), (6001, bL 9 1 eS [] r2.2), (6102, bL 88 3 eIIS (default : Tq2) (l8 ++ [(r9, r10, (r2.2.getD (n7 + 2) []))]))]
abbrev f61z8 (r2 : Bool × List (List UInt8)) : Heap := [(2, .cells 100 (f61z0)), (6, .cells 100 [.int .i64 (1 : Int), .int .i64 (0 : Int), .nils]), (6001, bL 9 1 eS [] r2.2)]
abbrev f61z9 (n3 : Nat) (i4 : Int) : List V := [.int .i64 (n3 : Int), .int .i64 i4, .own 6102]
abbrev f61z10 (n3 : Nat) (i4 : Int) (l5 : List Tq2) : List V := [.int .i64 (n3 : Int), .int .i64 i4, vL 3 eIIS (default : Tq2) l5]
abbrev f61z11 (x1 : List UInt8) (n7 : Nat) : List (Nat × V) := [(0, .str x1), (2, .ptr 2 0), (4, .own 6001), (6, .ptr 6 0), (7, .int .i64 (n7 : Int))]
abbrev f61z12 : List (Nat × V) := [(2, .ptr 2 0), (3, .int .i64 (2 : Int))]
abbrev f61z13 : List (Nat × V) := [(2, .ptr 2 0), (3, .int .i64 (0 : Int))]
abbrev f61z14 (r11 : Int) := ((r11 != (0 : Int)) == false)
def f61 (x1 : List UInt8) : Option (Int × Int × (List Tq2) × Int) :=
 (f81 x1).bind fun (r2 : Bool × List (List UInt8)) =>
 if ((!r2.1) || ((((r2.2).length : Nat) : Int) == (0 : Int))) then (
 some ((0 : Int), (0 : Int), [], (2 : Int))
 ) else (
 jn (fun ((n3, i4, l5) : Nat × Int × (List Tq2)) =>
 (f64 (n3 : Int) i4 l5).bind fun (r11 : Int) =>
 optc ((r11 != (0 : Int)) == false) (f65 (n3 : Int) i4 l5) fun (r12 : List UInt8) =>
 if ((r11 != (0 : Int)) || (!(r12 == x1))) then (
 some ((0 : Int), (0 : Int), [], (2 : Int))
 ) else (
 some ((n3 : Int), i4, l5, (0 : Int))
 )
 ) fun (K1 : (Nat × Int × (List Tq2)) → Option (Int × Int × (List Tq2) × Int)) =>
 chk ((0 : Int) < (((r2.2).length : Nat) : Int)) <|
 chk (0 < (r2.2).length) <|
 if ((r2.2.getD 0 []) == cs1) then (
 K1 (3, (0 : Int), [])
 ) else (
 chk ((0 : Int) < (((r2.2).length : Nat) : Int)) <|
 chk (0 < (r2.2).length) <|
 if (((r2.2.getD 0 []) == ([106, 111, 105, 110] : List UInt8)) && ((((r2.2).length : Nat) : Int) == (2 : Int))) then (
 (f82 (r2.2.getD 1 [])).bind fun (r6 : Int) =>
 chk ((1 : Int) < (((r2.2).length : Nat) : Int)) <|
 chk (1 < (r2.2).length) <|
 K1 (2, r6, [])
 ) else (
 chk ((0 : Int) < (((r2.2).length : Nat) : Int)) <|
 chk (0 < (r2.2).length) <|
 chk ((((r2.2.getD 0 []) == cs2) == true) = true → 0 ≤ (((r2.2).length : Nat) : Int) ∧ 1 ≤ (3 : Int)) <|
 if (((r2.2.getD 0 []) == cs2) && (((((r2.2).length % 3) : Nat) : Int) == (1 : Int))) then (
 f61_L0 r2 K1 FUEL (1, [])
 ) else (
 K1 (0, (0 : Int), [])
 )
 )
 )
 )
theorem f61_ok  (x1 : List UInt8) (r : Int × Int × (List Tq2) × Int) (h : f61 x1 = some r)  : Spec1 Tryz.prog 61 [] [] [] [.str x1] (.tup [.agg [.int .i64 r.1, .int .i64 r.2.1, vL 3 eIIS (default : Tq2) r.2.2.1], .int .i64 r.2.2.2]) [] := by
 unfold f61 at h
 refine Spec1.bodyD [2] 0 _ _ Tryz.func61 rfl Tryz.ntmps61 rfl rfl ?_
 refine q1rq [] [] ⟨94, [(0, .str x1), (2, .ptr 2 0)], [(2, .cells 100 (f61z0))], [], 0⟩ trivial ?_
 refine AWp.seq ?_
 obtain ⟨r2, hr2, h⟩ := bind_ok h
 refine q1rr [] [(1, ⟨[.str x1], [], [], [(6001, q1bS_9 r2.2)], .tup [.own 6001, .bool r2.1], [6001], [], []⟩)] ⟨94, [(0, .str x1), (2, .ptr 2 0), (4, .own 6001), (5, .bool r2.1)], [(2, .cells 100 (f61z0)), (6001, q1bS_9 r2.2)], [], 0⟩ (an1 (cpT (Spec1.ren (swapN 3000 6001) (swapN_inv 3000 6001) rfl (f81_ok _ _ hr2)))) ?_
 refine tN ?_
 refine AWp.seq ?_
 refine AWp.seq ?_
 have ob0 := idA (((!r2.1) == false) = true)
 have ob1 := idA (((!r2.1) == false) = true)
 have ob2 := bqA (!r2.1) false
 refine q1rr [] [] ⟨94, [(0, .str x1), (2, .ptr 2 0), (4, .own 6001), (19, .bool ((!r2.1) || ((lZ r2.2) == (0 : Int))))], [(2, .cells 100 (f61z0)), (6001, q1bS_9 r2.2)], [], 0⟩ (an3 (an1 ob0) (an1 ob1) ob2) ?_
 refine tN ?_
 refine AWp.cond (b := ((!r2.1) || ((lZ r2.2) == (0 : Int)))) (by kernel_rfl) (fun hc1 => ?_) (fun hc1 => ?_)
 ·
  replace h := ite_tb hc1 h
  refine q1rq [] [] ⟨94, (f61z12), [(2, .cells 100 (f61z0))], [], 0⟩ (an1 trivial) ?_
  have hret := Option.some.inj h
  subst hret
  refine AWp.le (Le.mk (s' := ⟨94, (f61z12), [(2, .cells 100 [.i (0 : Int), .i (0 : Int), q1aIIS []])], [], 0⟩) rfl rfl ⟨.refl _, .refl _, trivial⟩ ⟨⟨_, rfl, (.cellsL ⟨.refl _, .refl _, .nilL, trivial⟩)⟩, trivial⟩) ?_
  refine AWp.ret ?_
  refine tR ?_
  exact bR _ rfl ⟨rfl, rfl⟩ rfl
 ·
  replace h := ite_fb hc1 h
  refine AWp.skip ?_
  refine tN ?_
  refine q1rq [] [] ⟨94, [(0, .str x1), (2, .ptr 2 0), (4, .own 6001), (6, .ptr 6 0)], (f61z3 r2), [], 0⟩ trivial ?_
  obtain ⟨K1, hK1, h⟩ := jn_some h
  refine AWp.join (α := Nat × Int × (List Tq2)) (fun (x : Nat × Int × (List Tq2)) => match x with | (n3, i4, l5) => ⟨94, (f61z2 x1), [(2, .cells 100 (f61z0)), (6, .cells 100 (f61z9 n3 i4)), (6102, q1bIIS_88 l5)], [], 0⟩) (fun x => K1 x = some r) ?_ ?_
  ·
   refine AWp.block ?_
   refine AWp.seq ?_
   obtain ⟨ob3p, h⟩ := chk_some h
   have ob3 : 0 ≤ (0 : Int) ∧ (0 : Int) < (((r2.2).length : Nat) : Int) := ⟨by omega, ob3p⟩
   obtain ⟨ob4, h⟩ := chk_some h
   refine q1rr [] [] ⟨94, [(0, .str x1), (2, .ptr 2 0), (4, .own 6001), (6, .ptr 6 0), (21, .bool ((r2.2.getD 0 []) == cs1))], (f61z3 r2), [], 0⟩ (an2 ob3 ob4) ?_
   refine tN ?_
   refine AWp.cond (b := ((r2.2.getD 0 []) == cs1)) (by kernel_rfl) (fun hc2 => ?_) (fun hc2 => ?_)
   ·
    replace h := ite_tb hc2 h
    refine q1rr [] [] ⟨94, (f61z2 x1), [(2, .cells 100 (f61z0)), (6, .cells 100 [.i (3 : Int), .i (0 : Int), .nils])], [], 0⟩ (an1 trivial) ?_
    refine kN ?_
    exact jN (3, (0 : Int), []) (Le.trans (Le.trans (Le.nilOwnC 6 2 6102 88 3 (encF eIIS q1dIIS []) rfl rfl rfl) (Le.mk (s' := ⟨94, (f61z2 x1), [(2, .cells 100 (f61z0)), (6, .cells 100 [.i (3 : Int), .i (0 : Int), .own 6102]), (6102, q1bIIS_88 [])], [], 0⟩) rfl rfl ⟨.refl _, .refl _, .refl _, trivial⟩ ⟨⟨_, rfl, .refl _⟩, ⟨_, rfl, .refl _⟩, ⟨_, rfl, .refl _⟩, trivial⟩)) (Le.mk rfl rfl ⟨.refl _, .refl _, .refl _, trivial⟩ ⟨⟨_, rfl, .refl _⟩, ⟨_, rfl, .refl _⟩, ⟨_, rfl, .refl _⟩, trivial⟩)) h
   ·
    replace h := ite_fb hc2 h
    refine AWp.seq ?_
    obtain ⟨ob5p, h⟩ := chk_some h
    have ob5 : 0 ≤ (0 : Int) ∧ (0 : Int) < (((r2.2).length : Nat) : Int) := ⟨by omega, ob5p⟩
    obtain ⟨ob6, h⟩ := chk_some h
    have ob7 := idA ((((r2.2.getD 0 []) == (f61z6)) == true) = true)
    have ob8 := idA ((((r2.2.getD 0 []) == (f61z6)) == true) = true)
    have ob9 := bqA ((r2.2.getD 0 []) == (f61z6)) true
    refine q1rr [] [] ⟨94, [(0, .str x1), (2, .ptr 2 0), (4, .own 6001), (6, .ptr 6 0), (27, .bool (((r2.2.getD 0 []) == (f61z6)) && ((lZ r2.2) == (2 : Int))))], (f61z3 r2), [], 0⟩ (an5 ob5 ob6 (an1 ob7) (an1 ob8) ob9) ?_
    refine tN ?_
    refine AWp.cond (b := (((r2.2.getD 0 []) == (f61z6)) && ((lZ r2.2) == (2 : Int)))) (by kernel_rfl) (fun hc3 => ?_) (fun hc3 => ?_)
    ·
     replace h := ite_tb hc3 h
     obtain ⟨r6, hr6, h⟩ := bind_ok h
     obtain ⟨ob10p, h⟩ := chk_some h
     have ob10 : 0 ≤ (1 : Int) ∧ (1 : Int) < (((r2.2).length : Nat) : Int) := ⟨by omega, ob10p⟩
     obtain ⟨ob11, h⟩ := chk_some h
     refine q1rr [] [(3, ⟨[.str (r2.2.getD 1 [])], [], [], [], .i r6, [], [], []⟩)] ⟨94, (f61z2 x1), [(2, .cells 100 (f61z0)), (6, .cells 100 [.i (2 : Int), .i r6, .nils])], [], 0⟩ (an5 ob10 ob11 (cpT (f82_ok _ _ hr6)) trivial trivial) ?_
     refine kN ?_
     exact jN (2, r6, []) (Le.trans (Le.trans (Le.nilOwnC 6 2 6102 88 3 (encF eIIS q1dIIS []) rfl rfl rfl) (Le.mk (s' := ⟨94, (f61z2 x1), [(2, .cells 100 (f61z0)), (6, .cells 100 [.i (2 : Int), .i r6, .own 6102]), (6102, q1bIIS_88 [])], [], 0⟩) rfl rfl ⟨.refl _, .refl _, .refl _, trivial⟩ ⟨⟨_, rfl, .refl _⟩, ⟨_, rfl, .refl _⟩, ⟨_, rfl, .refl _⟩, trivial⟩)) (Le.mk rfl rfl ⟨.refl _, .refl _, .refl _, trivial⟩ ⟨⟨_, rfl, .refl _⟩, ⟨_, rfl, .refl _⟩, ⟨_, rfl, .refl _⟩, trivial⟩)) h
    ·
     replace h := ite_fb hc3 h
     refine AWp.seq ?_
     obtain ⟨ob12p, h⟩ := chk_some h
     have ob12 : 0 ≤ (0 : Int) ∧ (0 : Int) < (((r2.2).length : Nat) : Int) := ⟨by omega, ob12p⟩
     obtain ⟨ob13, h⟩ := chk_some h
     have ob14 := idA ((((r2.2.getD 0 []) == cs2) == true) = true)
     obtain ⟨ob15, h⟩ := chk_some h
     have ob16 := idA ((((r2.2.getD 0 []) == cs2) == true) = true)
     have ob17 := idA ((((r2.2.getD 0 []) == cs2) == true) = true)
     have ob18 := bqA ((r2.2.getD 0 []) == cs2) true
     refine q1rr [] [] ⟨94, (f61z4 x1 r2), (f61z3 r2), [], 0⟩ (an6 ob12 ob13 (an1 ob14) (And.intro ob15 (an1 ob16)) (an1 ob17) ob18) ?_
     refine tN ?_
     refine AWp.cond (b := (((r2.2.getD 0 []) == cs2) && (((((r2.2).length % 3) : Nat) : Int) == (1 : Int)))) (by kernel_rfl) (fun hc4 => ?_) (fun hc4 => ?_)
     ·
      replace h := ite_tb hc4 h
      refine q1rq [] [] ⟨94, [(0, .str x1), (2, .ptr 2 0), (4, .own 6001), (6, .ptr 6 0)], (f61z8 r2), [], 0⟩ (an1 trivial) ?_
      refine q1rq [] [] ⟨94, (f61z5 x1), (f61z8 r2), [], 0⟩ trivial ?_
      refine AWp.block ?_
      refine AWp.loopL (α := Nat × (Nat × (List Tq2))) (fun x => match x with | (_, n7, l8) => ⟨94, (f61z11 x1 n7), [(2, .cells 100 (f61z0)), (6, .cells 100 (f61z1)), (6001, q1bS_9 r2.2), (6102, q1bIIS_88 l8)], [], 0⟩) (fun x => f61_L0 r2 K1 x.1 x.2 = some r) (fun x => x.1) (FUEL, 1, []) (Le.trans (Le.trans (Le.nilOwnC 6 2 6102 88 3 (encF eIIS q1dIIS []) rfl rfl rfl) (Le.mk (s' := ⟨94, (f61z5 x1), [(2, .cells 100 (f61z0)), (6, .cells 100 (f61z1)), (6001, q1bS_9 r2.2), (6102, q1bIIS_88 [])], [], 0⟩) rfl rfl ⟨.refl _, .refl _, .refl _, .refl _, .refl _, trivial⟩ ⟨⟨_, rfl, .refl _⟩, ⟨_, rfl, .refl _⟩, ⟨_, rfl, .refl _⟩, ⟨_, rfl, .refl _⟩, trivial⟩)) (Le.mk (s' := ⟨94, (f61z5 x1), [(2, .cells 100 (f61z0)), (6, .cells 100 (f61z1)), (6001, q1bS_9 r2.2), (6102, q1bIIS_88 [])], [], 0⟩) rfl rfl ⟨.refl _, .refl _, .refl _, .refl _, .refl _, trivial⟩ ⟨⟨_, rfl, .refl _⟩, ⟨_, rfl, .refl _⟩, ⟨_, rfl, .refl _⟩, ⟨_, rfl, .refl _⟩, trivial⟩)) h ?_
      rintro ⟨k0, n7, l8⟩ h
      cases k0 with
      | zero => exact nomatch (show (none : Option (Int × Int × (List Tq2) × Int)) = some r from h)
      | succ k0 =>
      obtain ⟨C0, hC0⟩ : ∃ C, C = f61_L0 r2 K1 k0 := ⟨_, rfl⟩
      replace h := (f61_L0.eq_2 ..).symm.trans h
      try rw [← hC0] at h
      refine AWp.seq ?_
      refine q1rq [] [] ⟨94, [(0, .str x1), (2, .ptr 2 0), (4, .own 6001), (6, .ptr 6 0), (7, .i (n7 : Int)), (58, .bool (decide ((n7 : Int) < (lZ r2.2))))], [(2, .cells 100 (f61z0)), (6, .cells 100 (f61z1)), (6001, q1bS_9 r2.2), (6102, q1bIIS_88 l8)], [], 0⟩ trivial ?_
      refine AWp.cond (b := (decide ((n7 : Int) < (lZ r2.2)))) (by kernel_rfl) (fun hc5 => ?_) (fun hc5 => ?_)
      ·
       replace h := ite_tb hc5 h
       refine AWp.skip ?_
       refine tN ?_
       refine AWp.seq ?_
       refine AWp.block ?_
       obtain ⟨r9, hr9, h⟩ := bind_ok h
       obtain ⟨r10, hr10, h⟩ := bind_ok h
       obtain ⟨ob19p, h⟩ := chk_some h
       have ob19 : 0 ≤ (n7 : Int) ∧ (n7 : Int) < (((r2.2).length : Nat) : Int) := ⟨by omega, ob19p⟩
       obtain ⟨ob20, ob21p, h⟩ := ck2 h
       have ob21 : -9223372036854775808 ≤ ((n7 : Int) + (1 : Int)) ∧ ((n7 : Int) + (1 : Int)) ≤ 9223372036854775807 := ⟨by omega, ob21p⟩
       obtain ⟨ob22p, h⟩ := chk_some h
       have ob22 : 0 ≤ (((n7 + 1) : Nat) : Int) ∧ (((n7 + 1) : Nat) : Int) < (((r2.2).length : Nat) : Int) := ⟨by omega, ob22p⟩
       obtain ⟨ob23, ob24p, h⟩ := ck2 h
       have ob24 : -9223372036854775808 ≤ ((n7 : Int) + (2 : Int)) ∧ ((n7 : Int) + (2 : Int)) ≤ 9223372036854775807 := ⟨by omega, ob24p⟩
       obtain ⟨ob25p, h⟩ := chk_some h
       have ob25 : 0 ≤ (((n7 + 2) : Nat) : Int) ∧ (((n7 + 2) : Nat) : Int) < (((r2.2).length : Nat) : Int) := ⟨by omega, ob25p⟩
       obtain ⟨ob26, ob27, h⟩ := ck2 h
       refine q1rr [] [(6, ⟨[.str (r2.2.getD n7 [])], [], [], [], .i r9, [], [], []⟩), (12, ⟨[.str (r2.2.getD (n7 + 1) [])], [], [], [], .i r10, [], [], []⟩)] ⟨94, (f61z11 x1 n7), [(2, .cells 100 (f61z0)), (6, .cells 100 (f61z1)), (6001, q1bS_9 r2.2), (6102, .rows 88 3 ((l8).length + 1) (appF (l8).length (encF eIIS q1dIIS l8) (lstF 3 [.i r9, .i r10, .str (r2.2.getD (n7 + 2) [])])))], [], 0⟩ (ac6 ob19 ob20 (cpT (f82_ok _ _ hr9)) ob21 ob22 ob23 (an6 (cpT (f82_ok _ _ hr10)) ob24 ob25 ob26 ob27 trivial)) ?_
       refine kN ?_
       refine tN ?_
       refine AWp.le (Le.mk (s' := ⟨94, (f61z11 x1 n7), (f61z7 r2 l8 r9 r10 n7), [], 0⟩) rfl rfl ⟨.refl _, .refl _, .refl _, .refl _, .refl _, trivial⟩ ⟨⟨_, rfl, .refl _⟩, ⟨_, rfl, .refl _⟩, ⟨_, rfl, .refl _⟩, ⟨_, rfl, (BLe.of (RL.app (RL.self _) (RL.lst (enc := eIIS) [(r9, r10, (r2.2.getD (n7 + 2) []))] rfl rfl (fun _ => rfl))))⟩, trivial⟩) ?_
       obtain ⟨ob28p, h⟩ := chk_some h
       have ob28 : -9223372036854775808 ≤ ((n7 : Int) + (3 : Int)) ∧ ((n7 : Int) + (3 : Int)) ≤ 9223372036854775807 := ⟨by omega, ob28p⟩
       refine q1rr [] [] ⟨94, [(0, .str x1), (2, .ptr 2 0), (4, .own 6001), (6, .ptr 6 0), (7, .i (((n7 + 3) : Nat) : Int))], (f61z7 r2 l8 r9 r10 n7), [], 0⟩ (an1 ob28) ?_
       rw [hC0] at h
       exact lN (_, (n7 + 3), (l8 ++ [(r9, r10, (r2.2.getD (n7 + 2) []))])) (Le.mk rfl rfl ⟨.refl _, .refl _, .refl _, .refl _, .refl _, trivial⟩ ⟨⟨_, rfl, .refl _⟩, ⟨_, rfl, .refl _⟩, ⟨_, rfl, .refl _⟩, ⟨_, rfl, .refl _⟩, trivial⟩) h (Nat.lt_succ_self _)
      ·
       replace h := ite_fb hc5 h
       refine AWp.exit ?_
       refine tE ?_
       refine tE ?_
       refine kS ?_
       refine kN ?_
       exact jN (1, (0 : Int), l8) (Le.mk rfl rfl ⟨.refl _, .refl _, .refl _, trivial⟩ ⟨⟨_, rfl, .refl _⟩, ⟨_, rfl, .refl _⟩, ⟨_, rfl, .refl _⟩, trivial⟩) h
     ·
      replace h := ite_fb hc4 h
      refine AWp.skip ?_
      refine kN ?_
      exact jN (0, (0 : Int), []) (Le.trans (Le.trans (Le.nilOwnC 6 2 6102 88 3 (encF eIIS q1dIIS []) rfl rfl rfl) (Le.mk (s' := ⟨94, (f61z4 x1 r2), [(2, .cells 100 (f61z0)), (6, .cells 100 [.i (0 : Int), .i (0 : Int), .own 6102]), (6001, q1bS_9 r2.2), (6102, q1bIIS_88 [])], [], 0⟩) rfl rfl ⟨.refl _, .refl _, .refl _, .refl _, .refl _, trivial⟩ ⟨⟨_, rfl, .refl _⟩, ⟨_, rfl, .refl _⟩, ⟨_, rfl, .refl _⟩, ⟨_, rfl, .refl _⟩, trivial⟩)) (Le.mk rfl rfl ⟨.refl _, .refl _, .refl _, trivial⟩ ⟨⟨_, rfl, .refl _⟩, ⟨_, rfl, .refl _⟩, ⟨_, rfl, .refl _⟩, trivial⟩)) h
  ·
   rintro ⟨n3, i4, l5⟩ h
   replace h := (congrFun hK1 _).symm.trans h
   refine AWp.seq ?_
   refine AWp.seq ?_
   obtain ⟨r11, hr11, h⟩ := bind_ok h
   obtain ⟨r12, hr12, h⟩ := optc_some h
   have ob29 := idA ((f61z14 r11) = true)
   have ob30 := idA ((f61z14 r11) = true)
   have ob31 := idA ((f61z14 r11) = true)
   have ob32 : true = true → (r11 != (0 : Int)) = false → (f61z14 r11) = true := fun _ h => beq_iff_eq.2 h
   refine q1rr [] [(1, ⟨[.agg (f61z10 n3 i4 l5)], [], [], [], .i r11, [], [6102], []⟩), (5, ⟨[.agg (f61z10 n3 i4 l5)], [], [], [], .str r12, [], [6102], []⟩)] ⟨94, [(2, .ptr 2 0), (6, .ptr 6 0), (91, .bool ((r11 != (0 : Int)) || (!(r12 == x1))))], [(2, .cells 100 (f61z0)), (6, .cells 100 (f61z9 n3 i4)), (6102, q1bIIS_88 l5)], [], 0⟩ (an4 (cpL (c := true) [(6102, q1bIIS_88 l5)] [6102] [.agg (f61z9 n3 i4)] (fun _ => (f64_ok _ _ _ _ hr11)) (fun _ => ⟨.refl _, trivial⟩) (.inr ⟨rfl, trivial⟩)) (And.intro (cpL [(6102, q1bIIS_88 l5)] [6102] [.agg (f61z9 n3 i4)] (fun hc => (f65_ok _ _ _ _ (hr12 hc))) (fun _ => ⟨.refl _, trivial⟩) (.inr ⟨rfl, trivial⟩)) (an1 ob29)) (an2 ob30 ob31) ob32) ?_
   refine tN ?_
   refine AWp.cond (b := ((r11 != (0 : Int)) || (!(r12 == x1)))) (by kernel_rfl) (fun hc6 => ?_) (fun hc6 => ?_)
   ·
    replace h := ite_tb hc6 h
    refine q1rq [] [] ⟨94, (f61z12), [(2, .cells 100 (f61z0))], [], 0⟩ (an1 trivial) ?_
    have hret := Option.some.inj h
    subst hret
    refine AWp.le (Le.mk (s' := ⟨94, (f61z12), [(2, .cells 100 [.i (0 : Int), .i (0 : Int), q1aIIS []])], [], 0⟩) rfl rfl ⟨.refl _, .refl _, trivial⟩ ⟨⟨_, rfl, (.cellsL ⟨.refl _, .refl _, .nilL, trivial⟩)⟩, trivial⟩) ?_
    refine AWp.ret ?_
    refine tR ?_
    exact bR _ rfl ⟨rfl, rfl⟩ rfl
   ·
    replace h := ite_fb hc6 h
    refine AWp.skip ?_
    refine tN ?_
    refine q1rq [] [] ⟨94, (f61z13), [(2, .cells 100 (f61z9 n3 i4)), (6102, q1bIIS_88 l5)], [], 0⟩ (an1 trivial) ?_
    refine AWp.le (Le.trans (Le.freeze 6102 rfl rfl) (Le.mk (s' := ⟨94, (f61z13), [(2, .cells 100 (f61z10 n3 i4 l5))], [], 0⟩) rfl rfl ⟨.refl _, .refl _, trivial⟩ ⟨⟨_, rfl, .refl _⟩, trivial⟩)) ?_
    have hret := Option.some.inj h
    subst hret
    refine AWp.le (Le.mk (s' := ⟨94, (f61z13), [(2, .cells 100 (f61z10 n3 i4 l5))], [], 0⟩) rfl rfl ⟨.refl _, .refl _, trivial⟩ ⟨⟨_, rfl, .refl _⟩, trivial⟩) ?_
    refine AWp.ret ?_
    exact bR _ rfl ⟨rfl, rfl⟩ rfl
abbrev f74z0 (x7 : Int) := (decide (x7 ≥ (0 : Int)))
def f74 (x1 : List (List UInt8)) (x2 : List Tq5) (x3 : BitVec 16) (x4 : List (List UInt8 × Int × BitVec 16 × List (BitVec 16) × List (BitVec 16) × (List Tq1))) (x5 : List Int) (x6 : List (List UInt8 × Bool × (List Tq1))) (x7 : Int) : Option Bool :=
 chk ((((decide (x7 ≥ (0 : Int))) && (decide (x7 < (((x5).length : Nat) : Int)))) == true) = true → 0 ≤ x7 ∧ x7 < (((x5).length : Nat) : Int)) <|
 chk (((((decide (x7 ≥ (0 : Int))) && (decide (x7 < (((x5).length : Nat) : Int)))) && (decide ((x5.getD ((x7).toNat) 0) ≥ (0 : Int)))) == true) = true → 0 ≤ x7 ∧ x7 < (((x5).length : Nat) : Int)) <|
 some ((((decide (x7 ≥ (0 : Int))) && (decide (x7 < (((x5).length : Nat) : Int)))) && (decide ((x5.getD ((x7).toNat) 0) ≥ (0 : Int)))) && (decide ((x5.getD ((x7).toNat) 0) < (((x4).length : Nat) : Int))))
theorem f74_ok  (x1 : List (List UInt8)) (x2 : List Tq5) (x3 : BitVec 16) (x4 : List (List UInt8 × Int × BitVec 16 × List (BitVec 16) × List (BitVec 16) × (List Tq1))) (x5 : List Int) (x6 : List (List UInt8 × Bool × (List Tq1))) (x7 : Int) (r : Bool) (h : f74 x1 x2 x3 x4 x5 x6 x7 = some r)  : Spec1 Tryz.prog 74 [] [] [] [.agg [vL 1 eS [] x1, vL 2 eSW (default : Tq5) x2, .b16 x3, vL 6 eT73 (default : List UInt8 × Int × BitVec 16 × List (BitVec 16) × List (BitVec 16) × (List Tq1)) x4, vL 1 eI 0 x5, vL 3 eSBLWWJ (default : List UInt8 × Bool × (List Tq1)) x6], .int .i64 x7] (.bool r) [] := by
 unfold f74 at h
 refine Spec1.body 0 _ _ Tryz.func74 rfl Tryz.ntmps74 rfl rfl ?_
 refine q1rq [] [] ⟨33, [(1, .i x7), (2, .ptr 2 0)], [(2, .cells 37 [q1aS x1, q1aSW x2, .b16 x3, q1aT73 x4, q1aI x5, q1aSBLWWJ x6])], [], 0⟩ trivial ?_
 refine AWp.seq ?_
 have ob0 := idA (((f74z0 x7) == true) = true)
 have ob1 := idA (((f74z0 x7) == true) = true)
 have ob2 := idA (((f74z0 x7) == true) = true)
 have ob3 := idA (((f74z0 x7) == true) = true)
 have ob4 := bqA (f74z0 x7) true
 have ob5 := idA ((((f74z0 x7) && (decide (x7 < (lZ x5)))) == true) = true)
 obtain ⟨ob6, h⟩ := chk_some h
 have ob7 := idA ((((f74z0 x7) && (decide (x7 < (lZ x5)))) == true) = true)
 have ob8 := idA ((((f74z0 x7) && (decide (x7 < (lZ x5)))) == true) = true)
 have ob9 := idA ((((f74z0 x7) && (decide (x7 < (lZ x5)))) == true) = true)
 have ob10 := idA ((((f74z0 x7) && (decide (x7 < (lZ x5)))) == true) = true)
 have ob11 := bqA ((f74z0 x7) && (decide (x7 < (lZ x5)))) true
 have ob12 := idA (((((f74z0 x7) && (decide (x7 < (lZ x5)))) && (decide ((x5.getD ((x7).toNat) 0) ≥ (0 : Int)))) == true) = true)
 obtain ⟨ob13, h⟩ := chk_some h
 have ob14 := idA (((((f74z0 x7) && (decide (x7 < (lZ x5)))) && (decide ((x5.getD ((x7).toNat) 0) ≥ (0 : Int)))) == true) = true)
 have ob15 := idA (((((f74z0 x7) && (decide (x7 < (lZ x5)))) && (decide ((x5.getD ((x7).toNat) 0) ≥ (0 : Int)))) == true) = true)
 have ob16 := idA (((((f74z0 x7) && (decide (x7 < (lZ x5)))) && (decide ((x5.getD ((x7).toNat) 0) ≥ (0 : Int)))) == true) = true)
 have ob17 := idA (((((f74z0 x7) && (decide (x7 < (lZ x5)))) && (decide ((x5.getD ((x7).toNat) 0) ≥ (0 : Int)))) == true) = true)
 have ob18 := idA (((((f74z0 x7) && (decide (x7 < (lZ x5)))) && (decide ((x5.getD ((x7).toNat) 0) ≥ (0 : Int)))) == true) = true)
 have ob19 := idA (((((f74z0 x7) && (decide (x7 < (lZ x5)))) && (decide ((x5.getD ((x7).toNat) 0) ≥ (0 : Int)))) == true) = true)
 have ob20 := idA (((((f74z0 x7) && (decide (x7 < (lZ x5)))) && (decide ((x5.getD ((x7).toNat) 0) ≥ (0 : Int)))) == true) = true)
 have ob21 := bqA (((f74z0 x7) && (decide (x7 < (lZ x5)))) && (decide ((x5.getD ((x7).toNat) 0) ≥ (0 : Int)))) true
 refine q1rr [] [] ⟨33, [(4, .bool ((((f74z0 x7) && (decide (x7 < (lZ x5)))) && (decide ((x5.getD ((x7).toNat) 0) ≥ (0 : Int)))) && (decide ((x5.getD ((x7).toNat) 0) < (lZ x4)))))], [], [], 0⟩ (ac6 (an1 ob0) (an1 ob1) (an2 ob2 ob3) ob4 (an1 ob5) (And.intro ob6 (an2 ob7 ob8)) (ac6 (an1 ob9) (an1 ob10) ob11 (an1 ob12) (And.intro ob13 (an2 ob14 ob15)) (an1 ob16) (an4 (an1 ob17) (an1 ob18) (an2 ob19 ob20) ob21))) ?_
 refine tN ?_
 have hret := Option.some.inj h
 subst hret
 refine AWp.le (Le.mk (s' := ⟨33, [(4, .bool ((((f74z0 x7) && (decide (x7 < (lZ x5)))) && (decide ((x5.getD ((x7).toNat) 0) ≥ (0 : Int)))) && (decide ((x5.getD ((x7).toNat) 0) < (lZ x4)))))], [], [], 0⟩) rfl rfl ⟨.refl _, trivial⟩ trivial) ?_
 refine AWp.ret ?_
 exact bR _ rfl ⟨rfl, rfl⟩ rfl
abbrev f55z0 (r9 : Bool) (x8 : Bool) := ((r9 == true) && ((!x8) == false))
abbrev f55z1 := (List Tq1)
def f55 (x1 : List (List UInt8)) (x2 : List Tq5) (x3 : BitVec 16) (x4 : List (List UInt8 × Int × BitVec 16 × List (BitVec 16) × List (BitVec 16) × (List Tq1))) (x5 : List Int) (x6 : List (List UInt8 × Bool × (List Tq1))) (x7 : Int) (x8 : Bool) : Option Bool :=
 (f74 x1 x2 x3 x4 x5 x6 x7).bind fun (r9 : Bool) =>
 optc ((r9 == true) && ((!x8) == false)) (f74 x1 x2 x3 x4 x5 x6 (x7 + (1 : Int))) fun (r10 : Bool) =>
 chk (((r9 == true) && ((!x8) == false)) = true → -9223372036854775808 ≤ (x7 + (1 : Int)) ∧ (x7 + (1 : Int)) ≤ 9223372036854775807) <|
 chk ((r9 == true) = true → (r9 == true) = true → (!x8) = false → ((r9 == true) && ((!x8) == false)) = true) <|
 some (r9 && ((!x8) || r10))
theorem f55_ok  (x1 : List (List UInt8)) (x2 : List Tq5) (x3 : BitVec 16) (x4 : List (List UInt8 × Int × BitVec 16 × List (BitVec 16) × List (BitVec 16) × (List Tq1))) (x5 : List Int) (x6 : List (List UInt8 × Bool × (List Tq1))) (x7 : Int) (x8 : Bool) (r : Bool) (h : f55 x1 x2 x3 x4 x5 x6 x7 x8 = some r)  : Spec1 Tryz.prog 55 [] [] [] [.agg [vL 1 eS [] x1, vL 2 eSW (default : Tq5) x2, .b16 x3, vL 6 eT73 (default : List UInt8 × Int × BitVec 16 × List (BitVec 16) × List (BitVec 16) × (List Tq1)) x4, vL 1 eI 0 x5, vL 3 eSBLWWJ (default : List UInt8 × Bool × (List Tq1)) x6], .agg [.int .i64 x7, .bool x8]] (.bool r) [] := by
 unfold f55 at h
 refine Spec1.body 0 _ _ Tryz.func55 rfl Tryz.ntmps55 rfl rfl ?_
 refine q1rq [] [] ⟨21, [(2, .ptr 2 0), (3, .ptr 3 0)], [(2, .cells 37 [q1aS x1, q1aSW x2, .b16 x3, vL 6 eT73 (default : List UInt8 × Int × BitVec 16 × List (BitVec 16) × List (BitVec 16) × (f55z1)) x4, q1aI x5, vL 3 eSBLWWJ (default : List UInt8 × Bool × (f55z1)) x6]), (3, .cells 77 [.i x7, .bool x8])], [], 0⟩ trivial ?_
 refine AWp.seq ?_
 obtain ⟨r9, hr9, h⟩ := bind_ok h
 obtain ⟨r10, hr10, h⟩ := optc_some h
 have ob0 := idA ((r9 == true) = true)
 have ob1 := idA ((r9 == true) = true)
 have ob2 := idA ((r9 == true) = true)
 have ob3 := idA ((f55z0 r9 x8) = true)
 obtain ⟨ob4, h⟩ := chk_some h
 have ob5 := idA ((f55z0 r9 x8) = true)
 have ob6 := idA ((f55z0 r9 x8) = true)
 have ob7 := idA ((f55z0 r9 x8) = true)
 obtain ⟨ob8, h⟩ := chk_some h
 have ob9 := idA ((r9 == true) = true)
 have ob10 := bqA r9 true
 refine q1rr [] [(3, ⟨[.agg [q1aS x1, q1aSW x2, .b16 x3, vL 6 eT73 (default : List UInt8 × Int × BitVec 16 × List (BitVec 16) × List (BitVec 16) × (f55z1)) x4, q1aI x5, vL 3 eSBLWWJ (default : List UInt8 × Bool × (f55z1)) x6], .i x7], [], [], [], .bool r9, [], [], []⟩), (13, ⟨[.agg [q1aS x1, q1aSW x2, .b16 x3, vL 6 eT73 (default : List UInt8 × Int × BitVec 16 × List (BitVec 16) × List (BitVec 16) × (f55z1)) x4, q1aI x5, vL 3 eSBLWWJ (default : List UInt8 × Bool × (f55z1)) x6], .i (x7 + (1 : Int))], [], [], [], .bool r10, [], [], []⟩)] ⟨21, [(4, .bool (r9 && ((!x8) || r10)))], [], [], 0⟩ (ac6 (cpT (f74_ok _ _ _ _ _ _ _ _ hr9)) (an1 ob0) (an1 ob1) (an1 ob2) (an1 ob3) (And.intro ob4 (an1 ob5)) (an3 (And.intro (cpC fun hc => (f74_ok _ _ _ _ _ _ _ _ (hr10 hc))) (an2 ob6 ob7)) (And.intro ob8 (an1 ob9)) ob10)) ?_
 refine tN ?_
 have hret := Option.some.inj h
 subst hret
 refine AWp.le (Le.mk (s' := ⟨21, [(4, .bool (r9 && ((!x8) || r10)))], [], [], 0⟩) rfl rfl ⟨.refl _, trivial⟩ trivial) ?_
 refine AWp.ret ?_
 exact bR _ rfl ⟨rfl, rfl⟩ rfl
abbrev f60z0 (r10 : Int × Int × (List Tq2) × Int) (x8 : Bool) := ((r10.1 == (2 : Int)) && (!x8))
abbrev f60z1 := (List Tq1)
abbrev f60z2 (r10 : Int × Int × (List Tq2) × Int) : List V := [.int .i64 r10.1, .int .i64 r10.2.1, vL 3 eIIS (default : Tq2) r10.2.2.1]
abbrev f60z3 : List V := [.int .i64 (0 : Int), .bool false]
def f60 (x1 : List (List UInt8)) (x2 : List Tq5) (x3 : BitVec 16) (x4 : List (List UInt8 × Int × BitVec 16 × List (BitVec 16) × List (BitVec 16) × (List Tq1))) (x5 : List Int) (x6 : List (List UInt8 × Bool × (List Tq1))) (x7 : Int) (x8 : Bool) (x9 : List UInt8) : Option Tq3 :=
 (f61 x9).bind fun (r10 : Int × Int × (List Tq2) × Int) =>
 (f55 x1 x2 x3 x4 x5 x6 x7 x8).bind fun (r11 : Bool) =>
 if ((!r11) || (r10.2.2.2 != (0 : Int))) then (
 some (x7, x8)
 ) else (
 optc ((((r10.1 == (2 : Int)) && (!x8)) && (r10.2.1 == (x7 + (1 : Int)))) == true) (f55 x1 x2 x3 x4 x5 x6 x7 true) fun (r12 : Bool) =>
 chk ((((r10.1 == (2 : Int)) && (!x8)) == true) = true → -9223372036854775808 ≤ (x7 + (1 : Int)) ∧ (x7 + (1 : Int)) ≤ 9223372036854775807) <|
 if ((((r10.1 == (2 : Int)) && (!x8)) && (r10.2.1 == (x7 + (1 : Int)))) && r12) then (
 some (x7, true)
 ) else (
 if ((r10.1 == (3 : Int)) && x8) then (
 chk (-9223372036854775808 ≤ (x7 + (1 : Int)) ∧ (x7 + (1 : Int)) ≤ 9223372036854775807) <|
 some ((x7 + (1 : Int)), false)
 ) else (
 some (x7, x8)
 )
 )
 )
theorem f60_ok  (x1 : List (List UInt8)) (x2 : List Tq5) (x3 : BitVec 16) (x4 : List (List UInt8 × Int × BitVec 16 × List (BitVec 16) × List (BitVec 16) × (List Tq1))) (x5 : List Int) (x6 : List (List UInt8 × Bool × (List Tq1))) (x7 : Int) (x8 : Bool) (x9 : List UInt8) (r : Tq3) (h : f60 x1 x2 x3 x4 x5 x6 x7 x8 x9 = some r)  : Spec1 Tryz.prog 60 [] [] [] [.agg [vL 1 eS [] x1, vL 2 eSW (default : Tq5) x2, .b16 x3, vL 6 eT73 (default : List UInt8 × Int × BitVec 16 × List (BitVec 16) × List (BitVec 16) × (List Tq1)) x4, vL 1 eI 0 x5, vL 3 eSBLWWJ (default : List UInt8 × Bool × (List Tq1)) x6], .agg [.int .i64 x7, .bool x8], .str x9] (.agg [.int .i64 r.1, .bool r.2]) [] := by
 unfold f60 at h
 refine Spec1.bodyD [6] 0 _ _ Tryz.func60 rfl Tryz.ntmps60 rfl rfl ?_
 refine q1rq [] [] ⟨61, [(2, .str x9), (3, .ptr 3 0), (4, .ptr 4 0), (6, .ptr 6 0)], [(3, .cells 37 [q1aS x1, q1aSW x2, .b16 x3, vL 6 eT73 (default : List UInt8 × Int × BitVec 16 × List (BitVec 16) × List (BitVec 16) × (f60z1)) x4, q1aI x5, vL 3 eSBLWWJ (default : List UInt8 × Bool × (f60z1)) x6]), (4, .cells 77 [.i x7, .bool x8]), (6, .cells 77 (f60z3))], [], 0⟩ trivial ?_
 refine AWp.seq ?_
 obtain ⟨r10, hr10, h⟩ := bind_ok h
 refine q1rr [] [(1, ⟨[.str x9], [], [], [], .tup [.agg (f60z2 r10), .i r10.2.2.2], [], [], []⟩)] ⟨61, [(3, .ptr 3 0), (4, .ptr 4 0), (6, .ptr 6 0), (7, .ptr 7 0), (8, .i r10.2.2.2)], [(3, .cells 37 [q1aS x1, q1aSW x2, .b16 x3, vL 6 eT73 (default : List UInt8 × Int × BitVec 16 × List (BitVec 16) × List (BitVec 16) × (f60z1)) x4, q1aI x5, vL 3 eSBLWWJ (default : List UInt8 × Bool × (f60z1)) x6]), (4, .cells 77 [.i x7, .bool x8]), (6, .cells 77 (f60z3)), (7, .cells 100 (f60z2 r10))], [], 0⟩ (an2 (cpT (f61_ok _ _ hr10)) trivial) ?_
 refine tN ?_
 refine AWp.seq ?_
 refine AWp.seq ?_
 obtain ⟨r11, hr11, h⟩ := bind_ok h
 have ob0 := idA (((!r11) == false) = true)
 have ob1 := bqA (!r11) false
 refine q1rr [] [(2, ⟨[.agg [q1aS x1, q1aSW x2, .b16 x3, vL 6 eT73 (default : List UInt8 × Int × BitVec 16 × List (BitVec 16) × List (BitVec 16) × (f60z1)) x4, q1aI x5, vL 3 eSBLWWJ (default : List UInt8 × Bool × (f60z1)) x6], .agg [.i x7, .bool x8]], [], [], [], .bool r11, [], [], []⟩)] ⟨61, [(3, .ptr 3 0), (4, .ptr 4 0), (6, .ptr 6 0), (7, .ptr 7 0), (21, .bool ((!r11) || (r10.2.2.2 != (0 : Int))))], [(3, .cells 37 [q1aS x1, q1aSW x2, .b16 x3, vL 6 eT73 (default : List UInt8 × Int × BitVec 16 × List (BitVec 16) × List (BitVec 16) × (f60z1)) x4, q1aI x5, vL 3 eSBLWWJ (default : List UInt8 × Bool × (f60z1)) x6]), (4, .cells 77 [.i x7, .bool x8]), (6, .cells 77 (f60z3)), (7, .cells 100 (f60z2 r10))], [], 0⟩ (an3 (cpT (f55_ok _ _ _ _ _ _ _ _ _ hr11)) (an1 ob0) ob1) ?_
 refine tN ?_
 refine AWp.cond (b := ((!r11) || (r10.2.2.2 != (0 : Int)))) (by kernel_rfl) (fun hc1 => ?_) (fun hc1 => ?_)
 ·
  replace h := ite_tb hc1 h
  refine q1rq [] [] ⟨61, [(6, .ptr 6 0)], [(6, .cells 77 [.i x7, .bool x8])], [], 0⟩ (an1 trivial) ?_
  have hret := Option.some.inj h
  subst hret
  refine AWp.le (Le.mk (s' := ⟨61, [(6, .ptr 6 0)], [(6, .cells 77 [.i x7, .bool x8])], [], 0⟩) rfl rfl ⟨.refl _, trivial⟩ ⟨⟨_, rfl, .refl _⟩, trivial⟩) ?_
  refine AWp.ret ?_
  refine tR ?_
  exact bR _ rfl ⟨rfl, rfl⟩ rfl
 ·
  replace h := ite_fb hc1 h
  refine AWp.skip ?_
  refine tN ?_
  refine AWp.seq ?_
  refine AWp.seq ?_
  obtain ⟨r12, hr12, h⟩ := optc_some h
  have ob2 := idA (((r10.1 == (2 : Int)) == true) = true)
  have ob3 := idA (((r10.1 == (2 : Int)) == true) = true)
  have ob4 := bqA (r10.1 == (2 : Int)) true
  have ob5 := idA (((f60z0 r10 x8) == true) = true)
  have ob6 := idA (((f60z0 r10 x8) == true) = true)
  obtain ⟨ob7, h⟩ := chk_some h
  have ob8 := idA (((f60z0 r10 x8) == true) = true)
  have ob9 := idA (((f60z0 r10 x8) == true) = true)
  have ob10 := idA (((f60z0 r10 x8) == true) = true)
  have ob11 := bqA (f60z0 r10 x8) true
  have ob12 := idA ((((f60z0 r10 x8) && (r10.2.1 == (x7 + (1 : Int)))) == true) = true)
  have ob13 := idA ((((f60z0 r10 x8) && (r10.2.1 == (x7 + (1 : Int)))) == true) = true)
  have ob14 := idA ((((f60z0 r10 x8) && (r10.2.1 == (x7 + (1 : Int)))) == true) = true)
  have ob15 := idA ((((f60z0 r10 x8) && (r10.2.1 == (x7 + (1 : Int)))) == true) = true)
  have ob16 := bqA ((f60z0 r10 x8) && (r10.2.1 == (x7 + (1 : Int)))) true
  refine q1rr [] [(21, ⟨[.agg [q1aS x1, q1aSW x2, .b16 x3, vL 6 eT73 (default : List UInt8 × Int × BitVec 16 × List (BitVec 16) × List (BitVec 16) × (f60z1)) x4, q1aI x5, vL 3 eSBLWWJ (default : List UInt8 × Bool × (f60z1)) x6], .agg [.i x7, .bool true]], [], [], [], .bool r12, [], [], []⟩)] ⟨61, [(4, .ptr 4 0), (6, .ptr 6 0), (7, .ptr 7 0), (45, .bool (((f60z0 r10 x8) && (r10.2.1 == (x7 + (1 : Int)))) && r12))], [(4, .cells 77 [.i x7, .bool x8]), (6, .cells 77 (f60z3)), (7, .cells 100 (f60z2 r10))], [], 0⟩ (ac6 (an1 ob2) (an1 ob3) ob4 (an1 ob5) (an1 ob6) (And.intro ob7 (an1 ob8)) (an6 (an2 ob9 ob10) ob11 (an1 ob12) (an1 ob13) (And.intro (cpC fun hc => (f55_ok _ _ _ _ _ _ _ _ _ (hr12 hc))) (an2 ob14 ob15)) ob16)) ?_
  refine tN ?_
  refine AWp.cond (b := (((f60z0 r10 x8) && (r10.2.1 == (x7 + (1 : Int)))) && r12)) (by kernel_rfl) (fun hc2 => ?_) (fun hc2 => ?_)
  ·
   replace h := ite_tb hc2 h
   refine q1rq [] [] ⟨61, [(6, .ptr 6 0)], [(6, .cells 77 [.i x7, .bool true])], [], 0⟩ (an1 trivial) ?_
   have hret := Option.some.inj h
   subst hret
   refine AWp.le (Le.mk (s' := ⟨61, [(6, .ptr 6 0)], [(6, .cells 77 [.i x7, .bool true])], [], 0⟩) rfl rfl ⟨.refl _, trivial⟩ ⟨⟨_, rfl, .refl _⟩, trivial⟩) ?_
   refine AWp.ret ?_
   refine tR ?_
   exact bR _ rfl ⟨rfl, rfl⟩ rfl
  ·
   replace h := ite_fb hc2 h
   refine AWp.skip ?_
   refine tN ?_
   refine AWp.seq ?_
   refine AWp.seq ?_
   have ob17 := idA (((r10.1 == (3 : Int)) == true) = true)
   have ob18 := bqA (r10.1 == (3 : Int)) true
   refine q1rr [] [] ⟨61, [(4, .ptr 4 0), (6, .ptr 6 0), (55, .bool ((r10.1 == (3 : Int)) && x8))], [(4, .cells 77 [.i x7, .bool x8]), (6, .cells 77 (f60z3))], [], 0⟩ (an2 (an1 ob17) ob18) ?_
   refine tN ?_
   refine AWp.cond (b := ((r10.1 == (3 : Int)) && x8)) (by kernel_rfl) (fun hc3 => ?_) (fun hc3 => ?_)
   ·
    replace h := ite_tb hc3 h
    refine AWp.seq ?_
    obtain ⟨ob19, h⟩ := chk_some h
    refine q1rr [] [] ⟨61, [(6, .ptr 6 0)], [(6, .cells 77 [.i (x7 + (1 : Int)), .bool false])], [], 0⟩ (an2 ob19 trivial) ?_
    refine tN ?_
    have hret := Option.some.inj h
    subst hret
    refine AWp.le (Le.mk (s' := ⟨61, [(6, .ptr 6 0)], [(6, .cells 77 [.i (x7 + (1 : Int)), .bool false])], [], 0⟩) rfl rfl ⟨.refl _, trivial⟩ ⟨⟨_, rfl, .refl _⟩, trivial⟩) ?_
    refine AWp.ret ?_
    refine tR ?_
    exact bR _ rfl ⟨rfl, rfl⟩ rfl
   ·
    replace h := ite_fb hc3 h
    refine AWp.skip ?_
    refine tN ?_
    refine q1rq [] [] ⟨61, [(6, .ptr 6 0)], [(6, .cells 77 [.i x7, .bool x8])], [], 0⟩ (an1 trivial) ?_
    have hret := Option.some.inj h
    subst hret
    refine AWp.le (Le.mk (s' := ⟨61, [(6, .ptr 6 0)], [(6, .cells 77 [.i x7, .bool x8])], [], 0⟩) rfl rfl ⟨.refl _, trivial⟩ ⟨⟨_, rfl, .refl _⟩, trivial⟩) ?_
    refine AWp.ret ?_
    exact bR _ rfl ⟨rfl, rfl⟩ rfl
def f35_L0 (x1 : List (List UInt8)) (x2 : List Tq5) (x3 : BitVec 16) (x4 : List (List UInt8 × Int × BitVec 16 × List (BitVec 16) × List (BitVec 16) × (List Tq1))) (x5 : List Int) (x6 : List (List UInt8 × Bool × (List Tq1))) (r8 : List (List UInt8)) (K1 : (List Tq3) → Option (List Tq3)) : Nat → (Nat × (List Tq3)) → Option (List Tq3)
 | 0, _ => none
 | k + 1, (n9, l10) =>
  if (decide ((n9 : Int) < (((r8).length : Nat) : Int))) then (
  (f60 x1 x2 x3 x4 x5 x6 ((l10.getD n9 (default : Tq3)).1) ((l10.getD n9 (default : Tq3)).2) (r8.getD n9 [])).bind fun (r11 : Tq3) =>
  chk ((n9 : Int) < (((l10).length : Nat) : Int)) <|
  chk (n9 < (l10).length) <|
  chk ((n9 : Int) < (((r8).length : Nat) : Int)) <|
  chk (n9 < (r8).length) <|
  chk (((l10).length + 1) * 16 ≤ 140737488355328) <|
  chk (((n9 : Int) + (1 : Int)) ≤ 9223372036854775807) <|
  (f35_L0 x1 x2 x3 x4 x5 x6 r8 K1 k) ((n9 + 1), (l10 ++ [(r11.1, r11.2)]))
  ) else (
  K1 l10
  )
abbrev f35z0 := (List Tq1)
abbrev f35z1 (n9 : Nat) : List (Nat × V) := [(2, .ptr 2 0), (5, .own 9), (6, .own 6001), (7, .int .i64 (n9 : Int))]
def f35 (x1 : List (List UInt8)) (x2 : List Tq5) (x3 : BitVec 16) (x4 : List (List UInt8 × Int × BitVec 16 × List (BitVec 16) × List (BitVec 16) × (List Tq1))) (x5 : List Int) (x6 : List (List UInt8 × Bool × (List Tq1))) (x7 : List Y51) : Option (List Tq3) :=
 (f32 x7).bind fun (r8 : List (List UInt8)) =>
 jn (fun (l12 : List Tq3) =>
 some l12
 ) fun (K1 : (List Tq3) → Option (List Tq3)) =>
 f35_L0 x1 x2 x3 x4 x5 x6 r8 K1 FUEL (0, [((0 : Int), false)])
theorem f35_ok  (x1 : List (List UInt8)) (x2 : List Tq5) (x3 : BitVec 16) (x4 : List (List UInt8 × Int × BitVec 16 × List (BitVec 16) × List (BitVec 16) × (List Tq1))) (x5 : List Int) (x6 : List (List UInt8 × Bool × (List Tq1))) (x7 : List Y51) (r : List Tq3) (h : f35 x1 x2 x3 x4 x5 x6 x7 = some r)  : Spec1 Tryz.prog 35 [] [] [] [.agg [vL 1 eS [] x1, vL 2 eSW (default : Tq5) x2, .b16 x3, vL 6 eT73 (default : List UInt8 × Int × BitVec 16 × List (BitVec 16) × List (BitVec 16) × (List Tq1)) x4, vL 1 eI 0 x5, vL 3 eSBLWWJ (default : List UInt8 × Bool × (List Tq1)) x6], vL 28 eT51 (default : Y51) x7] (.own 3000) [(3000, bL 77 2 eIB (default : Tq3) r)] := by
 unfold f35 at h
 refine Spec1.body 0 _ _ Tryz.func35 rfl Tryz.ntmps35 rfl rfl ?_
 refine q1rq [] [] ⟨32, [(1, q1aT51 x7), (2, .ptr 2 0)], [(2, .cells 37 [q1aS x1, q1aSW x2, .b16 x3, vL 6 eT73 (default : List UInt8 × Int × BitVec 16 × List (BitVec 16) × List (BitVec 16) × (f35z0)) x4, q1aI x5, vL 3 eSBLWWJ (default : List UInt8 × Bool × (f35z0)) x6])], [], 0⟩ trivial ?_
 refine q1rq [] [] ⟨32, [(1, q1aT51 x7), (2, .ptr 2 0), (5, .own 9)], [(2, .cells 37 [q1aS x1, q1aSW x2, .b16 x3, vL 6 eT73 (default : List UInt8 × Int × BitVec 16 × List (BitVec 16) × List (BitVec 16) × (f35z0)) x4, q1aI x5, vL 3 eSBLWWJ (default : List UInt8 × Bool × (f35z0)) x6]), (9, .rows 77 2 1 (lstF 2 [.i (0 : Int), .bool false]))], [], 0⟩ trivial ?_
 refine AWp.le (Le.mk (s' := ⟨32, [(1, q1aT51 x7), (2, .ptr 2 0), (5, .own 9)], [(2, .cells 37 [q1aS x1, q1aSW x2, .b16 x3, vL 6 eT73 (default : List UInt8 × Int × BitVec 16 × List (BitVec 16) × List (BitVec 16) × (f35z0)) x4, q1aI x5, vL 3 eSBLWWJ (default : List UInt8 × Bool × (f35z0)) x6]), (9, q1bIB_77 [((0 : Int), false)])], [], 0⟩) rfl rfl ⟨.refl _, .refl _, .refl _, trivial⟩ ⟨⟨_, rfl, .refl _⟩, ⟨_, rfl, (BLe.of (RL.lst (enc := eIB) [((0 : Int), false)] rfl rfl (fun _ => rfl)))⟩, trivial⟩) ?_
 refine AWp.seq ?_
 obtain ⟨r8, hr8, h⟩ := bind_ok h
 refine q1rr [] [(1, ⟨[q1aT51 x7], [], [], [(6001, q1bS_9 r8)], .own 6001, [6001], [], []⟩)] ⟨32, [(2, .ptr 2 0), (5, .own 9), (6, .own 6001)], [(2, .cells 37 [q1aS x1, q1aSW x2, .b16 x3, vL 6 eT73 (default : List UInt8 × Int × BitVec 16 × List (BitVec 16) × List (BitVec 16) × (f35z0)) x4, q1aI x5, vL 3 eSBLWWJ (default : List UInt8 × Bool × (f35z0)) x6]), (9, q1bIB_77 [((0 : Int), false)]), (6001, q1bS_9 r8)], [], 0⟩ (an1 (cpT (Spec1.ren (swapN 3000 6001) (swapN_inv 3000 6001) rfl (f32_ok _ _ hr8)))) ?_
 refine tN ?_
 obtain ⟨K1, hK1, h⟩ := jn_some h
 refine AWp.join (α := List Tq3) (fun (l12 : List Tq3) => ⟨32, [(5, .own 9)], [(9, q1bIB_77 l12)], [], 0⟩) (fun x => K1 x = some r) ?_ ?_
 ·
  refine q1rq [] [] ⟨32, [(2, .ptr 2 0), (5, .own 9), (6, .own 6001), (7, .i (0 : Int))], [(2, .cells 37 [q1aS x1, q1aSW x2, .b16 x3, vL 6 eT73 (default : List UInt8 × Int × BitVec 16 × List (BitVec 16) × List (BitVec 16) × (f35z0)) x4, q1aI x5, vL 3 eSBLWWJ (default : List UInt8 × Bool × (f35z0)) x6]), (9, q1bIB_77 [((0 : Int), false)]), (6001, q1bS_9 r8)], [], 0⟩ trivial ?_
  refine AWp.block ?_
  refine AWp.loopL (α := Nat × (Nat × (List Tq3))) (fun x => match x with | (_, n9, l10) => ⟨32, (f35z1 n9), [(2, .cells 37 [q1aS x1, q1aSW x2, .b16 x3, vL 6 eT73 (default : List UInt8 × Int × BitVec 16 × List (BitVec 16) × List (BitVec 16) × (f35z0)) x4, q1aI x5, vL 3 eSBLWWJ (default : List UInt8 × Bool × (f35z0)) x6]), (9, q1bIB_77 l10), (6001, q1bS_9 r8)], [], 0⟩) (fun x => f35_L0 x1 x2 x3 x4 x5 x6 r8 K1 x.1 x.2 = some r) (fun x => x.1) (FUEL, 0, [((0 : Int), false)]) (Le.mk (s' := ⟨32, [(2, .ptr 2 0), (5, .own 9), (6, .own 6001), (7, .i (0 : Int))], [(2, .cells 37 [q1aS x1, q1aSW x2, .b16 x3, vL 6 eT73 (default : List UInt8 × Int × BitVec 16 × List (BitVec 16) × List (BitVec 16) × (f35z0)) x4, q1aI x5, vL 3 eSBLWWJ (default : List UInt8 × Bool × (f35z0)) x6]), (9, q1bIB_77 [((0 : Int), false)]), (6001, q1bS_9 r8)], [], 0⟩) rfl rfl ⟨.refl _, .refl _, .refl _, .refl _, trivial⟩ ⟨⟨_, rfl, .refl _⟩, ⟨_, rfl, .refl _⟩, ⟨_, rfl, .refl _⟩, trivial⟩) h ?_
  rintro ⟨k0, n9, l10⟩ h
  cases k0 with
  | zero => exact nomatch (show (none : Option (List Tq3)) = some r from h)
  | succ k0 =>
  obtain ⟨C0, hC0⟩ : ∃ C, C = f35_L0 x1 x2 x3 x4 x5 x6 r8 K1 k0 := ⟨_, rfl⟩
  replace h := (f35_L0.eq_2 ..).symm.trans h
  try rw [← hC0] at h
  refine AWp.seq ?_
  refine q1rq [] [] ⟨32, [(2, .ptr 2 0), (5, .own 9), (6, .own 6001), (7, .i (n9 : Int)), (15, .bool (decide ((n9 : Int) < (lZ r8))))], [(2, .cells 37 [q1aS x1, q1aSW x2, .b16 x3, vL 6 eT73 (default : List UInt8 × Int × BitVec 16 × List (BitVec 16) × List (BitVec 16) × (f35z0)) x4, q1aI x5, vL 3 eSBLWWJ (default : List UInt8 × Bool × (f35z0)) x6]), (9, q1bIB_77 l10), (6001, q1bS_9 r8)], [], 0⟩ trivial ?_
  refine AWp.cond (b := (decide ((n9 : Int) < (lZ r8)))) (by kernel_rfl) (fun hc1 => ?_) (fun hc1 => ?_)
  ·
   replace h := ite_tb hc1 h
   refine AWp.skip ?_
   refine tN ?_
   refine AWp.seq ?_
   refine AWp.block ?_
   obtain ⟨r11, hr11, h⟩ := bind_ok h
   obtain ⟨ob0p, h⟩ := chk_some h
   have ob0 : 0 ≤ (n9 : Int) ∧ (n9 : Int) < (((l10).length : Nat) : Int) := ⟨by omega, ob0p⟩
   obtain ⟨ob1, ob2p, h⟩ := ck2 h
   have ob2 : 0 ≤ (n9 : Int) ∧ (n9 : Int) < (((r8).length : Nat) : Int) := ⟨by omega, ob2p⟩
   obtain ⟨ob3, ob4, h⟩ := ck2 h
   refine q1rr [] [(10, ⟨[.agg [q1aS x1, q1aSW x2, .b16 x3, vL 6 eT73 (default : List UInt8 × Int × BitVec 16 × List (BitVec 16) × List (BitVec 16) × (f35z0)) x4, q1aI x5, vL 3 eSBLWWJ (default : List UInt8 × Bool × (f35z0)) x6], .agg [.i (l10.getD n9 q1dIB).1, .bool (l10.getD n9 q1dIB).2], .str (r8.getD n9 [])], [], [], [], .agg [.i r11.1, .bool r11.2], [], [], []⟩)] ⟨32, (f35z1 n9), [(2, .cells 37 [q1aS x1, q1aSW x2, .b16 x3, vL 6 eT73 (default : List UInt8 × Int × BitVec 16 × List (BitVec 16) × List (BitVec 16) × (f35z0)) x4, q1aI x5, vL 3 eSBLWWJ (default : List UInt8 × Bool × (f35z0)) x6]), (9, .rows 77 2 ((l10).length + 1) (appF (l10).length (encF eIB q1dIB l10) (lstF 2 [.i r11.1, .bool r11.2]))), (6001, q1bS_9 r8)], [], 0⟩ (an6 ob0 ob1 ob2 ob3 (cpT (f60_ok _ _ _ _ _ _ _ _ _ _ hr11)) ob4) ?_
   refine kN ?_
   refine tN ?_
   refine AWp.le (Le.mk (s' := ⟨32, (f35z1 n9), [(2, .cells 37 [q1aS x1, q1aSW x2, .b16 x3, vL 6 eT73 (default : List UInt8 × Int × BitVec 16 × List (BitVec 16) × List (BitVec 16) × (f35z0)) x4, q1aI x5, vL 3 eSBLWWJ (default : List UInt8 × Bool × (f35z0)) x6]), (9, q1bIB_77 (l10 ++ [(r11.1, r11.2)])), (6001, q1bS_9 r8)], [], 0⟩) rfl rfl ⟨.refl _, .refl _, .refl _, .refl _, trivial⟩ ⟨⟨_, rfl, .refl _⟩, ⟨_, rfl, (BLe.of (RL.app (RL.self _) (RL.lst (enc := eIB) [(r11.1, r11.2)] rfl rfl (fun _ => rfl))))⟩, ⟨_, rfl, .refl _⟩, trivial⟩) ?_
   obtain ⟨ob5p, h⟩ := chk_some h
   have ob5 : -9223372036854775808 ≤ ((n9 : Int) + (1 : Int)) ∧ ((n9 : Int) + (1 : Int)) ≤ 9223372036854775807 := ⟨by omega, ob5p⟩
   refine q1rr [] [] ⟨32, [(2, .ptr 2 0), (5, .own 9), (6, .own 6001), (7, .i (((n9 + 1) : Nat) : Int))], [(2, .cells 37 [q1aS x1, q1aSW x2, .b16 x3, vL 6 eT73 (default : List UInt8 × Int × BitVec 16 × List (BitVec 16) × List (BitVec 16) × (f35z0)) x4, q1aI x5, vL 3 eSBLWWJ (default : List UInt8 × Bool × (f35z0)) x6]), (9, q1bIB_77 (l10 ++ [(r11.1, r11.2)])), (6001, q1bS_9 r8)], [], 0⟩ (an1 ob5) ?_
   rw [hC0] at h
   exact lN (_, (n9 + 1), (l10 ++ [(r11.1, r11.2)])) (Le.mk rfl rfl ⟨.refl _, .refl _, .refl _, .refl _, trivial⟩ ⟨⟨_, rfl, .refl _⟩, ⟨_, rfl, .refl _⟩, ⟨_, rfl, .refl _⟩, trivial⟩) h (Nat.lt_succ_self _)
  ·
   replace h := ite_fb hc1 h
   refine AWp.exit ?_
   refine tE ?_
   refine tE ?_
   refine kS ?_
   exact jN (l10) (Le.mk rfl rfl ⟨.refl _, trivial⟩ ⟨⟨_, rfl, .refl _⟩, trivial⟩) h
 ·
  rintro l12 h
  replace h := (congrFun hK1 _).symm.trans h
  refine q1rq [] [] ⟨32, [(4, .own 9)], [(9, q1bIB_77 l12)], [], 0⟩ trivial ?_
  refine AWp.le (Le.trans (Le.ren (swapN 9 3000) (swapN_inv 9 3000) rfl) (Le.mk (s' := ⟨32, [(4, .own 3000)], [(3000, q1bIB_77 l12)], [], 0⟩) rfl rfl ⟨.refl _, trivial⟩ ⟨⟨_, rfl, .refl _⟩, trivial⟩)) ?_
  have hret := Option.some.inj h
  subst hret
  refine AWp.le (Le.mk (s' := ⟨32, [(4, .own 3000)], [(3000, q1bIB_77 l12)], [], 0⟩) rfl rfl ⟨.refl _, trivial⟩ ⟨⟨_, rfl, .refl _⟩, trivial⟩) ?_
  refine AWp.ret ?_
  exact bR _ rfl ⟨rfl, rfl⟩ rfl
def f33_L0 (x1 : List Tq3) (x2 : List Tq3) (K1 : Unit → Option Bool) : Nat → Nat → Option Bool
 | 0, _ => none
 | k + 1, n3 =>
  if (decide ((n3 : Int) < (((x1).length : Nat) : Int))) then (
  chk ((n3 : Int) < (((x1).length : Nat) : Int)) <|
  chk ((n3 : Int) < (((x2).length : Nat) : Int)) <|
  if (!(((x1.getD n3 (default : Tq3)).1 == (x2.getD n3 (default : Tq3)).1) && (((x1.getD n3 (default : Tq3)).2 == (x2.getD n3 (default : Tq3)).2) && true))) then (
  some false
  ) else (
  chk (((n3 : Int) + (1 : Int)) ≤ 9223372036854775807) <|
  (f33_L0 x1 x2 K1 k) (n3 + 1)
  )
  ) else (
  K1 ()
  )
def f33 (x1 : List Tq3) (x2 : List Tq3) : Option Bool :=
 if ((((x1).length : Nat) : Int) != (((x2).length : Nat) : Int)) then (
 some false
 ) else (
 jn (fun (_ : Unit) =>
 some true
 ) fun (K1 : Unit → Option Bool) =>
 f33_L0 x1 x2 K1 FUEL 0
 )
theorem f33_ok  (x1 : List Tq3) (x2 : List Tq3) (r : Bool) (h : f33 x1 x2 = some r)  : Spec1 Tryz.prog 33 [] [] [] [vL 2 eIB (default : Tq3) x1, vL 2 eIB (default : Tq3) x2] (.bool r) [] := by
 unfold f33 at h
 refine Spec1.body 0 _ _ Tryz.func33 rfl Tryz.ntmps33 rfl rfl ?_
 refine q1rq [] [] ⟨26, [(0, q1aIB x1), (1, q1aIB x2)], [], [], 0⟩ trivial ?_
 refine AWp.seq ?_
 refine q1rq [] [] ⟨26, [(0, q1aIB x1), (1, q1aIB x2), (10, .bool ((lZ x1) != (lZ x2)))], [], [], 0⟩ trivial ?_
 refine AWp.cond (b := ((lZ x1) != (lZ x2))) (by kernel_rfl) (fun hc1 => ?_) (fun hc1 => ?_)
 ·
  replace h := ite_tb hc1 h
  refine q1rq [] [] ⟨26, [(4, .bool false)], [], [], 0⟩ trivial ?_
  have hret := Option.some.inj h
  subst hret
  refine AWp.le (Le.mk (s' := ⟨26, [(4, .bool false)], [], [], 0⟩) rfl rfl ⟨.refl _, trivial⟩ trivial) ?_
  refine AWp.ret ?_
  refine tR ?_
  exact bR _ rfl ⟨rfl, rfl⟩ rfl
 ·
  replace h := ite_fb hc1 h
  refine AWp.skip ?_
  refine tN ?_
  obtain ⟨K1, hK1, h⟩ := jn_some h
  refine AWp.join (α := Unit) (fun (x : Unit) => match x with | () => ⟨26, [], [], [], 0⟩) (fun x => K1 x = some r) ?_ ?_
  ·
   refine q1rq [] [] ⟨26, [(0, q1aIB x1), (1, q1aIB x2), (12, .i (lZ x1)), (13, .i (0 : Int))], [], [], 0⟩ trivial ?_
   refine AWp.block ?_
   refine AWp.loopL (α := Nat × Nat) (fun x => match x with | (_, n3) => ⟨26, [(0, q1aIB x1), (1, q1aIB x2), (12, .i (lZ x1)), (13, .i (n3 : Int))], [], [], 0⟩) (fun x => f33_L0 x1 x2 K1 x.1 x.2 = some r) (fun x => x.1) (FUEL, 0) (Le.mk (s' := ⟨26, [(0, q1aIB x1), (1, q1aIB x2), (12, .i (lZ x1)), (13, .i (0 : Int))], [], [], 0⟩) rfl rfl ⟨.refl _, .refl _, .refl _, .refl _, trivial⟩ trivial) h ?_
   rintro ⟨k0, n3⟩ h
   cases k0 with
   | zero => exact nomatch (show (none : Option Bool) = some r from h)
   | succ k0 =>
   obtain ⟨C0, hC0⟩ : ∃ C, C = f33_L0 x1 x2 K1 k0 := ⟨_, rfl⟩
   replace h := (f33_L0.eq_2 ..).symm.trans h
   try rw [← hC0] at h
   refine q1rq [] [] ⟨26, [(0, q1aIB x1), (1, q1aIB x2), (12, .i (lZ x1)), (13, .i (n3 : Int)), (14, .bool (decide ((n3 : Int) < (lZ x1))))], [], [], 0⟩ trivial ?_
   refine AWp.seq ?_
   refine AWp.cond (b := (decide ((n3 : Int) < (lZ x1)))) (by kernel_rfl) (fun hc2 => ?_) (fun hc2 => ?_)
   ·
    replace h := ite_tb hc2 h
    refine AWp.skip ?_
    refine tN ?_
    refine AWp.seq ?_
    refine AWp.block ?_
    refine q1rq [] [] ⟨26, [(0, q1aIB x1), (1, q1aIB x2), (5, .i (n3 : Int)), (12, .i (lZ x1)), (13, .i (n3 : Int))], [], [], 0⟩ trivial ?_
    refine AWp.seq ?_
    obtain ⟨ob0p, h⟩ := chk_some h
    have ob0 : 0 ≤ (n3 : Int) ∧ (n3 : Int) < (((x1).length : Nat) : Int) := ⟨by omega, ob0p⟩
    obtain ⟨ob1p, h⟩ := chk_some h
    have ob1 : 0 ≤ (n3 : Int) ∧ (n3 : Int) < (((x2).length : Nat) : Int) := ⟨by omega, ob1p⟩
    refine q1rr [] [] ⟨26, [(0, q1aIB x1), (1, q1aIB x2), (12, .i (lZ x1)), (13, .i (n3 : Int)), (24, .bool (!(((x1.getD n3 q1dIB).1 == (x2.getD n3 q1dIB).1) && (((x1.getD n3 q1dIB).2 == (x2.getD n3 q1dIB).2) && true))))], [], [], 0⟩ (an2 ob0 ob1) ?_
    refine tN ?_
    refine AWp.cond (b := (!(((x1.getD n3 q1dIB).1 == (x2.getD n3 q1dIB).1) && (((x1.getD n3 q1dIB).2 == (x2.getD n3 q1dIB).2) && true)))) (by kernel_rfl) (fun hc3 => ?_) (fun hc3 => ?_)
    ·
     replace h := ite_tb hc3 h
     refine q1rq [] [] ⟨26, [(4, .bool false)], [], [], 0⟩ trivial ?_
     have hret := Option.some.inj h
     subst hret
     refine AWp.le (Le.mk (s' := ⟨26, [(4, .bool false)], [], [], 0⟩) rfl rfl ⟨.refl _, trivial⟩ trivial) ?_
     refine AWp.ret ?_
     refine kR ?_
     refine tR ?_
     refine tR ?_
     refine kR ?_
     refine joinQ_ret ?_
     exact bR _ rfl ⟨rfl, rfl⟩ rfl
    ·
     replace h := ite_fb hc3 h
     refine AWp.skip ?_
     refine kN ?_
     refine tN ?_
     obtain ⟨ob2p, h⟩ := chk_some h
     have ob2 : -9223372036854775808 ≤ ((n3 : Int) + (1 : Int)) ∧ ((n3 : Int) + (1 : Int)) ≤ 9223372036854775807 := ⟨by omega, ob2p⟩
     refine q1rr [] [] ⟨26, [(0, q1aIB x1), (1, q1aIB x2), (12, .i (lZ x1)), (13, .i (((n3 + 1) : Nat) : Int))], [], [], 0⟩ (an1 ob2) ?_
     rw [hC0] at h
     exact lN (_, (n3 + 1)) (Le.mk rfl rfl ⟨.refl _, .refl _, .refl _, .refl _, trivial⟩ trivial) h (Nat.lt_succ_self _)
   ·
    replace h := ite_fb hc2 h
    refine AWp.exit ?_
    refine tE ?_
    refine tE ?_
    refine kS ?_
    exact jN () (Le.mk rfl rfl trivial trivial) h
  ·
   rintro ⟨⟩ h
   replace h := (congrFun hK1 _).symm.trans h
   refine q1rq [] [] ⟨26, [(4, .bool true)], [], [], 0⟩ trivial ?_
   have hret := Option.some.inj h
   subst hret
   refine AWp.le (Le.mk (s' := ⟨26, [(4, .bool true)], [], [], 0⟩) rfl rfl ⟨.refl _, trivial⟩ trivial) ?_
   refine AWp.ret ?_
   exact bR _ rfl ⟨rfl, rfl⟩ rfl
abbrev f10z0 := (List Tq1)
def f10 (x1 : Int) (x2 : Int) (x3 : Int) (x4 : List (Int × Int × Int × List (BitVec 16) × List (BitVec 16) × (List Tq1))) (x5 : List Y51) : Option Bool :=
 (f11 ).bind fun (r6 : Bool) =>
 optc ((!r6) == false) (f16 x5) fun (r7 : Bool) =>
 if ((!r6) || (!r7)) then (
 (f11 ).bind fun (r8 : Bool) =>
 some r8
 ) else (
 (f28 x1 x2 x3 x4).bind fun (r9 : List (List UInt8) × BitVec 16 × (List Tq5) × (List (List UInt8 × Int × BitVec 16 × List (BitVec 16) × List (BitVec 16) × (List Tq1))) × List Int × (List (List UInt8 × Bool × (List Tq1)))) =>
 (f14 x5).bind fun (r10 : List (List UInt8)) =>
 (f32 x5).bind fun (r11 : List (List UInt8)) =>
 (f15 r10 r11).bind fun (r12 : Bool) =>
 if r12 = true then (
 (f34 r9.1 r9.2.2.1 r9.2.1 r9.2.2.2.1 r9.2.2.2.2.1 r9.2.2.2.2.2 x5).bind fun (r13 : List Tq3) =>
 (f35 r9.1 r9.2.2.1 r9.2.1 r9.2.2.2.1 r9.2.2.2.2.1 r9.2.2.2.2.2 x5).bind fun (r14 : List Tq3) =>
 (f33 r13 r14).bind fun (r15 : Bool) =>
 some r15
 ) else (
 some false
 )
 )
theorem f10_ok  (x1 : Int) (x2 : Int) (x3 : Int) (x4 : List (Int × Int × Int × List (BitVec 16) × List (BitVec 16) × (List Tq1))) (x5 : List Y51) (r : Bool) (h : f10 x1 x2 x3 x4 x5 = some r)  : Spec1 Tryz.prog 10 [(1, .tab .u64 Lib.pow10Tab), (2, errG), (3, errG)] [] [] [.agg [.int .u8 x1, .int .u8 x2, .int .u8 x3, vL 6 eT129 (default : Int × Int × Int × List (BitVec 16) × List (BitVec 16) × (List Tq1)) x4], vL 28 eT51 (default : Y51) x5] (.bool r) [] := by
 unfold f10 at h
 refine Spec1.body 0 _ _ Tryz.func10 rfl Tryz.ntmps10 rfl rfl ?_
 refine q1rq [] [] ⟨30, [(1, q1aT51 x5), (2, .ptr 2 0), (1000001, .tab .u64 Lib.pow10Tab), (1000002, errG), (1000003, errG)], [(2, .cells 68 [.int .u8 x1, .int .u8 x2, .int .u8 x3, vL 6 eT129 (default : Int × Int × Int × List (BitVec 16) × List (BitVec 16) × (f10z0)) x4])], [], 0⟩ trivial ?_
 refine AWp.seq ?_
 refine AWp.seq ?_
 obtain ⟨r6, hr6, h⟩ := bind_ok h
 obtain ⟨r7, hr7, h⟩ := optc_some h
 have ob0 := idA (((!r6) == false) = true)
 have ob1 := idA (((!r6) == false) = true)
 have ob2 := bqA (!r6) false
 refine q1rr [] [(0, ⟨[], [], [], [], .bool r6, [], [], [1, 2, 3]⟩), (4, ⟨[q1aT51 x5], [], [], [], .bool r7, [], [], []⟩)] ⟨30, [(1, q1aT51 x5), (2, .ptr 2 0), (12, .bool ((!r6) || (!r7))), (1000001, .tab .u64 Lib.pow10Tab), (1000002, errG), (1000003, errG)], [(2, .cells 68 [.int .u8 x1, .int .u8 x2, .int .u8 x3, vL 6 eT129 (default : Int × Int × Int × List (BitVec 16) × List (BitVec 16) × (f10z0)) x4])], [], 0⟩ (an4 (cpT (f11_ok _ hr6)) (And.intro (cpC fun hc => (f16_ok _ _ (hr7 hc))) (an1 ob0)) (an1 ob1) ob2) ?_
 refine tN ?_
 refine AWp.cond (b := ((!r6) || (!r7))) (by kernel_rfl) (fun hc1 => ?_) (fun hc1 => ?_)
 ·
  replace h := ite_tb hc1 h
  refine AWp.seq ?_
  obtain ⟨r8, hr8, h⟩ := bind_ok h
  refine q1rr [] [(0, ⟨[], [], [], [], .bool r8, [], [], [1, 2, 3]⟩)] ⟨30, [(4, .bool r8), (1000001, .tab .u64 Lib.pow10Tab), (1000002, errG), (1000003, errG)], [], [], 0⟩ (an1 (cpT (f11_ok _ hr8))) ?_
  refine tN ?_
  have hret := Option.some.inj h
  subst hret
  refine AWp.le (Le.mk (s' := ⟨30, [(4, .bool r8)], [], [], 0⟩) rfl rfl ⟨.refl _, trivial⟩ trivial) ?_
  refine AWp.ret ?_
  refine tR ?_
  exact bR _ rfl ⟨rfl, rfl⟩ rfl
 ·
  replace h := ite_fb hc1 h
  refine AWp.skip ?_
  refine tN ?_
  refine AWp.seq ?_
  obtain ⟨r9, hr9, h⟩ := bind_ok h
  refine q1rr [] [(1, ⟨[.agg [.int .u8 x1, .int .u8 x2, .int .u8 x3, vL 6 eT129 (default : Int × Int × Int × List (BitVec 16) × List (BitVec 16) × (f10z0)) x4]], [], [], [(6001, q1bSW_126 r9.2.2.1), (6002, bL 73 6 eT73 (default : List UInt8 × Int × BitVec 16 × List (BitVec 16) × List (BitVec 16) × (f10z0)) r9.2.2.2.1), (6003, q1bI_3 r9.2.2.2.2.1), (6004, bL 132 3 eSBLWWJ (default : List UInt8 × Bool × (f10z0)) r9.2.2.2.2.2)], .agg [q1aS r9.1, .own 6001, .b16 r9.2.1, .own 6002, .own 6003, .own 6004], [6001, 6002, 6003, 6004], [], []⟩)] ⟨30, [(1, q1aT51 x5), (5, .ptr 5 0), (1000001, .tab .u64 Lib.pow10Tab), (1000002, errG), (1000003, errG)], [(5, .cells 37 [q1aS r9.1, .own 6001, .b16 r9.2.1, .own 6002, .own 6003, .own 6004]), (6001, q1bSW_126 r9.2.2.1), (6002, bL 73 6 eT73 (default : List UInt8 × Int × BitVec 16 × List (BitVec 16) × List (BitVec 16) × (f10z0)) r9.2.2.2.1), (6003, q1bI_3 r9.2.2.2.2.1), (6004, bL 132 3 eSBLWWJ (default : List UInt8 × Bool × (f10z0)) r9.2.2.2.2.2)], [], 0⟩ (an2 (cpT (Spec1.ren (swapN 3003 6004) (swapN_inv 3003 6004) rfl (Spec1.ren (swapN 3002 6003) (swapN_inv 3002 6003) rfl (Spec1.ren (swapN 3001 6002) (swapN_inv 3001 6002) rfl (Spec1.ren (swapN 3000 6001) (swapN_inv 3000 6001) rfl (f28_ok _ _ _ _ _ hr9)))))) trivial) ?_
  refine tN ?_
  refine AWp.seq ?_
  obtain ⟨r10, hr10, h⟩ := bind_ok h
  obtain ⟨r11, hr11, h⟩ := bind_ok h
  obtain ⟨r12, hr12, h⟩ := bind_ok h
  by_cases hg4_5 : r12 = true
  ·
   replace h := ite_t hg4_5 h
   obtain ⟨r13, hr13, h⟩ := bind_ok h
   obtain ⟨r14, hr14, h⟩ := bind_ok h
   obtain ⟨r15, hr15, h⟩ := bind_ok h
   have ob3 := idA (true = true)
   have ob4 := idA (true = true)
   have ob5 := idA (true = true)
   have ob6 := idA (true = true)
   have ob7 : true = true → true = true → true = true := fun _ h => h
   refine q1rr [] [(1, ⟨[q1aT51 x5], [], [], [(6005, q1bS_9 r10)], .own 6005, [6005], [], []⟩), (3, ⟨[q1aT51 x5], [], [], [(6006, q1bS_9 r11)], .own 6006, [6006], [], []⟩), (4, ⟨[q1aS r10, q1aS r11], [], [], [], .bool r12, [], [6005, 6006], []⟩), (5, ⟨[], [], [], [], (.bool true), [], [0], []⟩), (8, ⟨[.agg [q1aS r9.1, q1aSW r9.2.2.1, .b16 r9.2.1, vL 6 eT73 (default : List UInt8 × Int × BitVec 16 × List (BitVec 16) × List (BitVec 16) × (f10z0)) r9.2.2.2.1, q1aI r9.2.2.2.2.1, vL 3 eSBLWWJ (default : List UInt8 × Bool × (f10z0)) r9.2.2.2.2.2], q1aT51 x5], [], [], [(6007, q1bIB_77 r13)], .own 6007, [6007], [6001, 6002, 6003, 6004], [1, 2, 3]⟩), (11, ⟨[.agg [q1aS r9.1, q1aSW r9.2.2.1, .b16 r9.2.1, vL 6 eT73 (default : List UInt8 × Int × BitVec 16 × List (BitVec 16) × List (BitVec 16) × (f10z0)) r9.2.2.2.1, q1aI r9.2.2.2.2.1, vL 3 eSBLWWJ (default : List UInt8 × Bool × (f10z0)) r9.2.2.2.2.2], q1aT51 x5], [], [], [(6008, q1bIB_77 r14)], .own 6008, [6008], [6001, 6002, 6003, 6004], []⟩), (12, ⟨[q1aIB r13, q1aIB r14], [], [], [], .bool r15, [], [6007, 6008], []⟩)] ⟨30, [(4, .bool r15), (1000001, .tab .u64 Lib.pow10Tab), (1000002, errG), (1000003, errG)], [], [], 0⟩ (ac6 (cpT (Spec1.ren (swapN 3000 6005) (swapN_inv 3000 6005) rfl (f14_ok _ _ hr10))) (cpT (Spec1.ren (swapN 3000 6006) (swapN_inv 3000 6006) rfl (f32_ok _ _ hr11))) (cpL (c := true) [(6005, q1bS_9 r10), (6006, q1bS_9 r11)] [6005, 6006] [.own 6005, .own 6006] (fun _ => (f15_ok _ _ _ hr12)) (fun _ => ⟨.refl _, .refl _, trivial⟩) (.inr ⟨rfl, trivial⟩)) (show ((.bool r12) : V) = (.bool true) from (congrArg (fun x => ((.bool x) : V)) hg4_5)) (And.intro (cpL (c := true) [(6001, q1bSW_126 r9.2.2.1), (6002, bL 73 6 eT73 (default : List UInt8 × Int × BitVec 16 × List (BitVec 16) × List (BitVec 16) × (f10z0)) r9.2.2.2.1), (6003, q1bI_3 r9.2.2.2.2.1), (6004, bL 132 3 eSBLWWJ (default : List UInt8 × Bool × (f10z0)) r9.2.2.2.2.2)] [6001, 6002, 6003, 6004] [.agg [q1aS r9.1, .own 6001, .b16 r9.2.1, .own 6002, .own 6003, .own 6004], q1aT51 x5] (fun _ => (Spec1.ren (swapN 3000 6007) (swapN_inv 3000 6007) rfl (f34_ok _ _ _ _ _ _ _ _ hr13))) (fun _ => ⟨.refl _, .refl _, trivial⟩) (.inr ⟨rfl, ⟨(fun _ _ _ _ => eIB_flat _ _), trivial⟩⟩)) (an2 ob3 ob4)) (And.intro (cpL (c := true) [(6001, q1bSW_126 r9.2.2.1), (6002, bL 73 6 eT73 (default : List UInt8 × Int × BitVec 16 × List (BitVec 16) × List (BitVec 16) × (f10z0)) r9.2.2.2.1), (6003, q1bI_3 r9.2.2.2.2.1), (6004, bL 132 3 eSBLWWJ (default : List UInt8 × Bool × (f10z0)) r9.2.2.2.2.2)] [6001, 6002, 6003, 6004] [.agg [q1aS r9.1, .own 6001, .b16 r9.2.1, .own 6002, .own 6003, .own 6004], q1aT51 x5] (fun _ => (Spec1.ren (swapN 3000 6008) (swapN_inv 3000 6008) rfl (f35_ok _ _ _ _ _ _ _ _ hr14))) (fun _ => ⟨.refl _, .refl _, trivial⟩) (.inr ⟨rfl, ⟨(fun _ _ _ _ => eIB_flat _ _), trivial⟩⟩)) (an2 ob5 ob6)) (an2 (cpL (c := true) [(6007, q1bIB_77 r13), (6008, q1bIB_77 r14)] [6007, 6008] [.own 6007, .own 6008] (fun _ => (f33_ok _ _ _ hr15)) (fun _ => ⟨.refl _, .refl _, trivial⟩) (.inr ⟨rfl, trivial⟩)) ob7)) ?_
   refine tN ?_
   have hret := Option.some.inj h
   subst hret
   refine AWp.le (Le.mk (s' := ⟨30, [(4, .bool r15)], [], [], 0⟩) rfl rfl ⟨.refl _, trivial⟩ trivial) ?_
   refine AWp.ret ?_
   exact bR _ rfl ⟨rfl, rfl⟩ rfl
  ·
   replace h := ite_f hg4_5 h
   have ob3 := idA (false = true)
   have ob4 := idA (false = true)
   have ob5 := idA (false = true)
   have ob6 := idA (false = true)
   have ob7 := idA (false = true)
   have ob8 := idA (false = true)
   have ob9 : true = true → false = true → false = true := fun _ h => h
   refine q1rr [] [(1, ⟨[q1aT51 x5], [], [], [(6005, q1bS_9 r10)], .own 6005, [6005], [], []⟩), (3, ⟨[q1aT51 x5], [], [], [(6006, q1bS_9 r11)], .own 6006, [6006], [], []⟩), (4, ⟨[q1aS r10, q1aS r11], [], [], [], .bool r12, [], [6005, 6006], []⟩), (5, ⟨[], [], [], [], (.bool false), [], [0], []⟩), (8, ⟨[], [], [], [], .any, [], [], []⟩), (11, ⟨[], [], [], [], .any, [], [], []⟩), (12, ⟨[], [], [], [], .bool false, [], [], []⟩)] ⟨30, [(4, .bool false), (1000001, .tab .u64 Lib.pow10Tab), (1000002, errG), (1000003, errG)], [], [], 0⟩ (ac6 (cpT (Spec1.ren (swapN 3000 6005) (swapN_inv 3000 6005) rfl (f14_ok _ _ hr10))) (cpT (Spec1.ren (swapN 3000 6006) (swapN_inv 3000 6006) rfl (f32_ok _ _ hr11))) (cpL (c := true) [(6005, q1bS_9 r10), (6006, q1bS_9 r11)] [6005, 6006] [.own 6005, .own 6006] (fun _ => (f15_ok _ _ _ hr12)) (fun _ => ⟨.refl _, .refl _, trivial⟩) (.inr ⟨rfl, trivial⟩)) (show ((.bool r12) : V) = (.bool false) from (congrArg (fun x => ((.bool x) : V)) (Bool.eq_false_iff.2 hg4_5))) (And.intro (show (callP Tryz.prog false 34 [] [] [] [] [] [.agg [q1aS r9.1, .own 6001, .b16 r9.2.1, .own 6002, .own 6003, .own 6004], q1aT51 x5] [] (.any) []) from ⟨nofun, nofun, .inl rfl⟩) (an2 ob3 ob4)) (And.intro (show (callP Tryz.prog false 35 [] [] [] [] [] [.agg [q1aS r9.1, .own 6001, .b16 r9.2.1, .own 6002, .own 6003, .own 6004], q1aT51 x5] [] (.any) []) from ⟨nofun, nofun, .inl rfl⟩) (an2 ob5 ob6)) (an2 (And.intro (show (callP Tryz.prog false 33 [] [] [] [] [] [.any, .any] [] (.bool false) []) from ⟨nofun, nofun, .inl rfl⟩) (an2 ob7 ob8)) ob9)) ?_
   refine tN ?_
   have hret := Option.some.inj h
   subst hret
   refine AWp.le (Le.mk (s' := ⟨30, [(4, .bool false)], [], [], 0⟩) rfl rfl ⟨.refl _, trivial⟩ trivial) ?_
   refine AWp.ret ?_
   exact bR _ rfl ⟨rfl, rfl⟩ rfl
end Go.Abs
namespace Go.Abs
theorem chk_pos {p : Prop} [Decidable p] {α : Type} {x : Option α} (h : p) : chk p x = x := if_pos h
theorem ifd_pos {p : Prop} [Decidable p] {α : Type} {x y : α} (h : p) : (if decide p = true then x else y) = x := if_pos (decide_eq_true h)
theorem ifd_neg {p : Prop} [Decidable p] {α : Type} {x y : α} (h : ¬ p) : (if decide p = true then x else y) = y := if_neg (by simpa using h)
theorem jn_eq {α β : Type} (K : α → Option β) (x : (α → Option β) → Option β) : jn K x = x K := rfl
theorem optc_t {α β : Type} [Inhabited α] {x : Option α} {k : α → Option β} : optc true x k = x.bind k := rfl
theorem optc_f {α β : Type} [Inhabited α] {x : Option α} {k : α → Option β} : optc false x k = k default := rfl
theorem some_bind {α β : Type} (a : α) (f : α → Option β) : (some a).bind f = f a := rfl
theorem fuel_lt {n : Nat} (h : n ≤ 18446744073709551615) : n < FUEL := by unfold FUEL; omega
theorem getD_drop {α : Type} (x : List α) (n : Nat) (d : α) (h : n < x.length) : x.drop n = x.getD n d :: x.drop (n + 1) := by
 rw [List.drop_eq_getElem_cons h]
 simp [List.getD_eq_getElem?_getD, h]
end Go.Abs
namespace Go.Abs
section
variable {α β : Type} [DecidableEq α]
theorem idxL_none (x : α) : ∀ (l : List (α × β)) (i : Nat), idxL x (l.map (·.1)) i = none → ∀ p, p ∈ l → x ≠ p.1
 | [], _, _, p, hp => by cases hp
 | q :: l, i, h, p, hp => by
  simp only [List.map_cons, idxL] at h
  by_cases e : x = q.1
  ·rw [if_pos e] at h; cases h
  ·rw [if_neg e] at h
   rcases List.mem_cons.1 hp with rfl | hp
   ·exact e
   ·exact idxL_none x l (i + 1) h p hp
theorem idxL_some (x : α) : ∀ (l : List (α × β)) (i j : Nat), idxL x (l.map (·.1)) i = some j → ∃ A p B, l = A ++ p :: B ∧ j = i + A.length ∧ x = p.1 ∧ ∀ q, q ∈ A → x ≠ q.1
 | [], _, _, h => by cases h
 | q :: l, i, j, h => by
  simp only [List.map_cons, idxL] at h
  by_cases e : x = q.1
  ·rw [if_pos e] at h; cases h
   exact ⟨[], q, l, rfl, rfl, e, by simp⟩
  ·rw [if_neg e] at h
   obtain ⟨A, p, B, h1, h2, h3, h4⟩ := idxL_some x l (i + 1) j h
   refine ⟨q :: A, p, B, by rw [h1]; rfl, by simp; omega, h3, fun r hr => ?_⟩
   rcases List.mem_cons.1 hr with rfl | hr
   ·exact e
   ·exact h4 r hr
theorem find_skip (x : α) : ∀ (A : List (α × β)) (B : List (α × β)), (∀ q, q ∈ A → x ≠ q.1) → (A ++ B).find? (fun p => decide (x = p.1)) = B.find? (fun p => decide (x = p.1))
 | [], _, _ => rfl
 | a :: A, B, h => by
  rw [List.cons_append, List.find?_cons]
  have : decide (x = a.1) = false := decide_eq_false (h a (List.mem_cons_self ..))
  rw [this]
  exact find_skip x A B fun q hq => h q (List.mem_cons_of_mem _ hq)
theorem find_upd (l : List (α × β)) (x k : α) (y : β) : (updM l x y).find? (fun p => decide (k = p.1)) = if k = x then some (x, y) else l.find? (fun p => decide (k = p.1)) := by
 unfold updM
 cases hi : idxL x (l.map (·.1)) 0 with
 | none =>
  have h := idxL_none x l 0 hi
  simp only []
  by_cases e : k = x
  ·subst e
   rw [if_pos rfl, find_skip _ _ _ h, List.find?_cons]
   simp
  ·rw [if_neg e, List.find?_append]
   cases l.find? (fun p => decide (k = p.1)) with
   | some _ => rfl
   | none => simp [e]
 | some j =>
  obtain ⟨A, p, B, rfl, h2, h3, h4⟩ := idxL_some x l 0 j hi
  have ej : j = A.length := by omega
  subst ej
  simp only []
  have es : (A ++ p :: B).set A.length (x, y) = A ++ (x, y) :: B := by
   rw [List.set_append_right _ _ (Nat.le_refl _)]; simp
  rw [es]
  by_cases e : k = x
  ·subst e
   rw [if_pos rfl, find_skip _ _ _ h4, List.find?_cons]
   simp
  ·rw [if_neg e, List.find?_append, List.find?_append, List.find?_cons, List.find?_cons]
   have h5 : decide (k = x) = false := decide_eq_false e
   have h6 : decide (k = p.1) = false := decide_eq_false (fun h => e (by rw [h, h3]))
   simp only [h5, h6]
theorem gM_upd (l : List (α × β)) (x k : α) (y z : β) : gM (updM l x y) z k = if k = x then y else gM l z k := by
 unfold gM
 rw [find_upd]
 by_cases e : k = x
 ·rw [if_pos e, if_pos e]
 ·rw [if_neg e, if_neg e]
theorem hM_find (l : List (α × β)) (k : α) : hM l k = (l.find? (fun p => decide (k = p.1))).isSome := by
 unfold hM
 induction l with
 | nil => rfl
 | cons a l ih =>
  rw [List.any_cons, List.find?_cons]
  cases decide (k = a.1) with
  | true => rfl
  | false => simpa using ih
theorem hM_upd (l : List (α × β)) (x k : α) (y : β) : hM (updM l x y) k = (decide (k = x) || hM l k) := by
 rw [hM_find, hM_find, find_upd]
 by_cases e : k = x
 ·rw [if_pos e]; simp [e]
 ·rw [if_neg e]; simp [e]
theorem hM_mem {l : List (α × β)} {k : α} (h : hM l k = true) : ∃ p, p ∈ l ∧ p.1 = k := by
 unfold hM at h
 obtain ⟨p, hp, e⟩ := List.any_eq_true.1 h
 exact ⟨p, hp, (of_decide_eq_true e).symm⟩
theorem updM_len (l : List (α × β)) (x : α) (y : β) : (updM l x y).length ≤ l.length + 1 := by
 unfold updM
 cases idxL x (l.map (·.1)) 0 with
 | none => simp
 | some j => simp
end
theorem slots_len {β : Type} : ∀ (k : Nat) (l : List (Int × β)), (∀ i, i < k → ∃ p, p ∈ l ∧ p.1 = ((i : Nat) : Int)) → k ≤ l.length
 | 0, _, _ => Nat.zero_le _
 | k + 1, l, h => by
  obtain ⟨p, hp, e⟩ := h k (by omega)
  have ih := slots_len k (l.filter fun q => !decide (q.1 = ((k : Nat) : Int))) fun i hi => by
   obtain ⟨q, hq, eq⟩ := h i (by omega)
   exact ⟨q, List.mem_filter.2 ⟨hq, by simp; omega⟩, eq⟩
  have hlt : (l.filter fun q => !decide (q.1 = ((k : Nat) : Int))).length < l.length := by
   rcases Nat.lt_or_ge (l.filter fun q => !decide (q.1 = ((k : Nat) : Int))).length l.length with h2 | h2
   ·exact h2
   ·have := List.length_filter_eq_length_iff.1 (Nat.le_antisymm (List.length_filter_le _ l) h2) p hp
    simp [e] at this
  omega
end Go.Abs
namespace Go.Abs
def pty (k w : Int) : Int × Bool := if k = 4 ∧ 0 ≤ w ∧ w < 12 then (w, true) else if k = 3 ∧ 0 ≤ w ∧ w < 6 then (12 + w, true) else (0, false)
theorem f50_eq {x1 x2 x3 x4 x5 x6 x7} :
  f50 x1 x2 x3 x4 x5 x6 x7 = some (pty x2 x3) := by
 unfold f50 pty f57
 by_cases h4 : x2 = 4 ∧ 0 ≤ x3 ∧ x3 < 12
 ·rw [if_pos h4, if_pos (by simp [h4.1, h4.2.1, h4.2.2])]
 ·rw [if_neg h4, if_neg (by simp; omega)]
  by_cases h3 : x2 = 3
  ·have e : ((x2 == (3 : Int)) == true) = true := by simp [h3]
   rw [e, optc_t, some_bind]
   by_cases hw : 0 ≤ x3 ∧ x3 < 6
   ·rw [if_pos (by simp [h3, hw.1, hw.2]), if_pos ⟨h3, hw⟩, chk_pos (by omega)]
   ·rw [if_neg (by simp; omega), if_neg (by omega)]
  ·have e : ((x2 == (3 : Int)) == true) = false := by simp [h3]
   rw [e, optc_f, if_neg (by simp), if_neg (fun h => h3 h.1)]
def st (p : Y51) : Bool := (pty p.2.1 p.2.2.1).2
abbrev ptyP (p : Y51) : Int × Bool := pty p.2.1 p.2.2.1
abbrev slot (p : Y51) : Int := p.2.2.2.1
abbrev txtP (p : Y51) : List UInt8 := p.2.2.2.2.2.1
abbrev MV_ := List Tq4
abbrev MX_ := List Tq3
abbrev MS_ := List (Tq0 × List UInt8)
abbrev MA_ := List Tq0
abbrev MQ_ := List (Tq2 × Bool)
abbrev MK_ := List (Tq0 × Bool)
def seeV (a : MV_) (s : Int) (t : List UInt8) : MV_ := if hM a s = true then a else updM a s t
def seeX (a : MV_) (b : MX_) (s : Int) (t : List UInt8) : MX_ := if hM a s = true then (if (gM a [] s == t) = true then b else updM b s true) else b
def seeS (c : MS_) (q s : Int) (t : List UInt8) : MS_ := if hM c (q, s) = true then c else updM c (q, s) t
def seeA (d : MA_) (k w : Int) : MA_ := if (k == 3) = true then updM d w (gM d 0 w + 1) else d
theorem f57_eq {x1 x2 x3 x4 x5 x6 x7} :
  f57 x1 x2 x3 x4 x5 x6 x7 = some (decide (x3 ≥ 0) && decide (x3 < 6)) := rfl
theorem optc_bnd {α β : Type} [Inhabited α] {c : Bool} {a : α} {k : α → Option β} : optc c (some a) k = k (if c = true then a else default) := by
 cases c <;> rfl
theorem f45_st {x1 x2 x3 x4 x5 x6 x7} (a : MV_) (b : MX_) (c : MS_) (d : MA_) (e : MS_) (f : MQ_) (g : MK_) (h : (pty x2 x3).2 = true) (hb : -9223372036854775808 ≤ gM d 0 x3 + 1 ∧ gM d 0 x3 + 1 ≤ 9223372036854775807) :
  f45 x1 x2 x3 x4 x5 x6 x7 a b c d e f g = some (seeV a x4 x6, seeX a b x4 x6, seeS c (pty x2 x3).1 x4 x6, seeA d x2 x3, e, f, g) := by
 have hk : x2 ≠ 1 ∧ x2 ≠ 2 := by
  unfold pty at h
  by_cases h4 : x2 = 4 ∧ 0 ≤ x3 ∧ x3 < 12
  ·omega
  ·rw [if_neg h4] at h
   by_cases h3 : x2 = 3 ∧ 0 ≤ x3 ∧ x3 < 6
   ·omega
   ·rw [if_neg h3] at h; cases h
 have e1 : (x2 == (1 : Int)) = false := by simp [hk.1]
 have e2 : (x2 == (2 : Int)) = false := by simp [hk.2]
 unfold f45
 rw [jn_eq, f50_eq, some_bind, if_pos h]
 simp only [jn_eq, e1, e2, optc_f, Bool.false_and, show (false == true) = false from rfl]
 unfold seeV seeX seeS seeA
 cases h1 : hM a x4 with
 | false =>
  cases h3 : hM c ((pty x2 x3).1, x4) with
  | false =>
   cases h4 : (x2 == 3) with
   | false => rfl
   | true => simp [chk_pos hb]
  | true =>
   cases h4 : (x2 == 3) with
   | false => rfl
   | true => simp [chk_pos hb]
 | true =>
  cases h2 : (gM a [] x4 == x6) with
  | false =>
   cases h3 : hM c ((pty x2 x3).1, x4) with
   | false =>
    cases h4 : (x2 == 3) with
    | false => rfl
    | true => simp [chk_pos hb]
   | true =>
    cases h4 : (x2 == 3) with
    | false => rfl
    | true => simp [chk_pos hb]
  | true =>
   cases h3 : hM c ((pty x2 x3).1, x4) with
   | false =>
    cases h4 : (x2 == 3) with
    | false => rfl
    | true => simp [chk_pos hb]
   | true =>
    cases h4 : (x2 == 3) with
    | false => rfl
    | true => simp [chk_pos hb]
theorem f45_no {x1 x2 x3 x4 x5 x6 x7} (a : MV_) (b : MX_) (c : MS_) (d : MA_) (e : MS_) (f : MQ_) (g : MK_) (h : (pty x2 x3).2 = false) :
  ∃ e' f' g', f45 x1 x2 x3 x4 x5 x6 x7 a b c d e f g = some (a, b, c, d, e', f', g') := by
 unfold f45
 rw [jn_eq, f50_eq, some_bind, if_neg (by rw [h]; simp)]
 dsimp only
 simp only [f57_eq, optc_bnd]
 repeat' split
 all_goals exact ⟨_, _, _, rfl⟩
theorem f45_no_bind {R : Type} {x1 x2 x3 x4 x5 x6 x7} (a : MV_) (b : MX_) (c : MS_) (d : MA_) (e : MS_) (f : MQ_) (g : MK_) (h : (pty x2 x3).2 = false)
  {k : MV_ × MX_ × MS_ × MA_ × MS_ × MQ_ × MK_ → Option R} {r : Option R} (hk : ∀ e' f' g', k (a, b, c, d, e', f', g') = r) :
  (f45 x1 x2 x3 x4 x5 x6 x7 a b c d e f g).bind k = r := by
 obtain ⟨e', f', g', h1⟩ := f45_no (x1 := x1) (x4 := x4) (x5 := x5) (x6 := x6) (x7 := x7) a b c d e f g h
 rw [h1]
 exact hk e' f' g'
def gV (s : MV_ × MX_) (p : Y51) : MV_ × MX_ := if st p = true then (seeV s.1 (slot p) (txtP p), seeX s.1 s.2 (slot p) (txtP p)) else s
abbrev RCom := Option (List (List UInt8))
theorem f14_L0_eq (x : List Y51) (hx : x.length ≤ 1000000) (K : MV_ × MX_ × MS_ × MA_ × MS_ × MQ_ × MK_ → RCom) (J : MV_ × MX_ → RCom) (hK : ∀ a b c d e f g, K (a, b, c, d, e, f, g) = J (a, b)) :
  ∀ (m k n : Nat) (a : MV_) (b : MX_) (c : MS_) (d : MA_) (e : MS_) (f : MQ_) (g : MK_), n + m = x.length → m < k → (∀ w, 0 ≤ gM d 0 w ∧ gM d 0 w ≤ n) → f14_L0 x K k (n, a, b, c, d, e, f, g) = J ((x.drop n).foldl gV (a, b))
 | 0, k, n, a, b, c, d, e, f, g, hn, hk, hd => by
  obtain ⟨k, rfl⟩ : ∃ z, k = z + 1 := ⟨k - 1, by omega⟩
  rw [List.drop_eq_nil_of_le (by omega)]
  conv => lhs; unfold f14_L0
  rw [ifd_neg (by omega), hK]
  rfl
 | m + 1, k, n, a, b, c, d, e, f, g, hn, hk, hd => by
  obtain ⟨k, rfl⟩ : ∃ z, k = z + 1 := ⟨k - 1, by omega⟩
  rw [getD_drop x n (default : Y51) (by omega), List.foldl_cons]
  conv => lhs; unfold f14_L0
  rw [ifd_pos (by omega), chk_pos (by omega)]
  by_cases hs : st (x.getD n default) = true
  ·have hd' := hd (x.getD n (default : Y51)).2.2.1
   rw [f45_st a b c d e f g hs (by omega), some_bind, chk_pos (by omega)]
   have ih := f14_L0_eq x hx K J hK m k (n + 1) (seeV a (slot (x.getD n default)) (txtP (x.getD n default))) (seeX a b (slot (x.getD n default)) (txtP (x.getD n default))) (seeS c (ptyP (x.getD n default)).1 (slot (x.getD n default)) (txtP (x.getD n default))) (seeA d (x.getD n default).2.1 (x.getD n default).2.2.1) e f g (by omega) (by omega) (fun w => by
    unfold seeA
    split
    ·rw [gM_upd]
     split
     ·constructor <;> omega
     ·have := hd w; constructor <;> omega
    ·have := hd w; constructor <;> omega)
   refine Eq.trans ih ?_
   unfold gV
   rw [if_pos hs]
  ·have hs' : st (x.getD n default) = false := by simpa using hs
   refine f45_no_bind a b c d e f g hs' fun e' f' g' => ?_
   rw [chk_pos (by omega)]
   refine (f14_L0_eq x hx K J hK m k (n + 1) a b c d e' f' g' (by omega) (by omega) (fun w => by have := hd w; constructor <;> omega)).trans ?_
   unfold gV
   rw [if_neg hs]
def comV (x : List Y51) : MV_ × MX_ := x.foldl gV ([], [])
theorem comV_len : ∀ (x : List Y51) (s : MV_ × MX_), (x.foldl gV s).1.length ≤ s.1.length + x.length
 | [], s => by simp
 | p :: x, s => by
  rw [List.foldl_cons]
  have ih := comV_len x (gV s p)
  have h : (gV s p).1.length ≤ s.1.length + 1 := by
   unfold gV
   split
   ·show (seeV s.1 (slot p) (txtP p)).length ≤ _
    unfold seeV
    split
    ·omega
    ·exact updM_len _ _ _
   ·omega
  simp only [List.length_cons]
  omega
theorem f14_eq (x : List Y51) (hx : x.length ≤ 1000000) : f14 x = f14_L1 (comV x).1 (comV x).2 FUEL [] := by
 unfold f14 f44
 rw [some_bind, jn_eq]
 exact f14_L0_eq x hx _ (fun s => f14_L1 s.1 s.2 FUEL []) (fun _ _ _ _ _ _ _ => rfl) x.length FUEL 0 [] [] [] [] [] [] [] (by omega) (fuel_lt (by omega)) (fun w => ⟨Int.le_refl _, Int.le_refl _⟩)
theorem f16_L0_some (x : List Y51) (hx : x.length ≤ 9223372036854775807) (K : Int → Option Bool) (hK : ∀ i, ∃ b, K i = some b ∧ (b = true → x.length ≤ 60)) : ∀ (m k n : Nat) (i : Int), n + m = x.length → m < k → ∃ b, f16_L0 x K k (i, n) = some b ∧ (b = true → x.length ≤ 60)
 | 0, k, n, i, hn, hk => by
  obtain ⟨k, rfl⟩ : ∃ z, k = z + 1 := ⟨k - 1, by omega⟩
  conv => enter [1, b, 1, 1]; unfold f16_L0
  rw [ifd_neg (by omega)]
  exact hK i
 | m + 1, k, n, i, hn, hk => by
  obtain ⟨k, rfl⟩ : ∃ z, k = z + 1 := ⟨k - 1, by omega⟩
  conv => enter [1, b, 1, 1]; unfold f16_L0
  rw [ifd_pos (by omega), chk_pos (by omega), chk_pos (by omega), chk_pos (by omega)]
  exact f16_L0_some x hx K hK m k (n + 1) _ (by omega) (by omega)
theorem f16_some (x : List Y51) (hx : x.length ≤ 9223372036854775807) : ∃ b, f16 x = some b ∧ (b = true → x.length ≤ 60) := by
 unfold f16
 rw [jn_eq]
 exact f16_L0_some x hx _ (fun i => ⟨_, rfl, fun h => by
  simp only [Bool.and_eq_true, decide_eq_true_eq] at h
  omega⟩) x.length FUEL 0 0 (by omega) (fuel_lt (by omega))
theorem f15_refl (l : List (List UInt8)) (hl : l.length ≤ 1000000) : f15 l l = some true := by
 unfold f15
 rw [if_neg (by simp), jn_eq]
 have : ∀ (m k n : Nat), n + m = l.length → m < k → f15_L0 l l (fun _ => some true) k n = some true := by
  intro m
  induction m with
  | zero =>
   intro k n hn hk
   obtain ⟨k, rfl⟩ : ∃ z, k = z + 1 := ⟨k - 1, by omega⟩
   conv => lhs; unfold f15_L0
   rw [ifd_neg (by omega)]
  | succ m ih =>
   intro k n hn hk
   obtain ⟨k, rfl⟩ : ∃ z, k = z + 1 := ⟨k - 1, by omega⟩
   conv => lhs; unfold f15_L0
   rw [ifd_pos (by omega), chk_pos (by omega), chk_pos (by omega), if_neg (by simp), chk_pos (by omega)]
   exact ih k (n + 1) (by omega) (by omega)
 exact this l.length FUEL 0 (by omega) (fuel_lt (by omega))
end Go.Abs
