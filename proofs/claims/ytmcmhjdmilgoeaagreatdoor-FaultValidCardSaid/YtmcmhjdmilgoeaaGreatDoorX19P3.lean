/- X19, part 3. -/
import Derived.Test.YtmcmhjdmilgoeaaGreatDoorX19P2
namespace Go.Abs
open Go Go.Proofs
set_option maxHeartbeats 4000000
set_option maxRecDepth 100000 in
theorem f74_ok  (x1 : BitVec 16) (x2 : BitVec 16) (r : Int) (h : f74 x1 x2 = some r)  : Spec1 Tryz.prog 74 [] [] [] [.b16 x1, .b16 x2] (.int .i64 r) [] := by
  unfold f74 at h
  refine Spec1.body 0 _ _ Tryz.func74 rfl Tryz.ntmps74 rfl rfl ?_
  refine AWp.seq ?_
  refine AWp.regC [] [] [0, 1] [] ⟨25, [(0, .b16 x1), (1, .b16 x2)], [], [], 0⟩ (True) Tryz_mixed (by kernel_rfl) trivial ?_
  refine thenQ_normal ?_
  refine AWp.seq ?_
  refine AWp.seq ?_
  refine AWp.regC [] [] [0, 1, 7] [] ⟨25, [(0, .b16 x1), (1, .b16 x2), (7, .bool (x1 == x2))], [], [], 0⟩ (True) Tryz_mixed (by kernel_rfl) trivial ?_
  refine thenQ_normal ?_
  refine AWp.cond (b := (x1 == x2)) (by kernel_rfl) (fun hc1 => ?_) (fun hc1 => ?_)
  ·
    replace h := ite_tb hc1 h
    refine AWp.seq ?_
    refine AWp.regC [] [] [4] [] ⟨25, [(4, .int .i64 (0 : Int))], [], [], 0⟩ (True) Tryz_mixed (by kernel_rfl) trivial ?_
    refine thenQ_normal ?_
    have hret := Option.some.inj h
    subst hret
    refine AWp.le (Le.mk (s := ⟨25, [(4, .int .i64 (0 : Int))], [], [], 0⟩) (s' := ⟨25, [(4, .int .i64 (0 : Int))], [], [], 0⟩) rfl rfl ⟨.refl _, trivial⟩ trivial) ?_
    refine AWp.ret ?_
    refine thenQ_ret ?_
    exact bodyQ_ret _ rfl ⟨rfl, rfl⟩ rfl
  ·
    replace h := ite_fb hc1 h
    refine AWp.skip ?_
    refine thenQ_normal ?_
    refine AWp.seq ?_
    refine AWp.seq ?_
    obtain ⟨r3, hr3, h⟩ := bind_ok h
    obtain ⟨r4, hr4, h⟩ := bind_ok h
    obtain ⟨r5, hr5, h⟩ := optc_some h
    obtain ⟨r6, hr6, h⟩ := optc_some h
    have ob0 : ((decide (r3 < r4)) == false) = true → ((decide (r3 < r4)) == false) = true := fun h => h
    have ob1 : ((decide (r3 < r4)) == false) = true → ((decide (r3 < r4)) == false) = true := fun h => h
    have ob2 : ((decide (r3 < r4)) == false) = true → ((decide (r3 < r4)) == false) = true := fun h => h
    have ob3 : ((decide (r3 < r4)) == false) = true → ((decide (r3 < r4)) == false) = true := fun h => h
    have ob4 : ((decide (r3 < r4)) == false) = true → ((decide (r3 < r4)) == false) = true := fun h => h
    have ob5 : (((decide (r3 < r4)) == false) && ((r5 == r6) == true)) = true → (((decide (r3 < r4)) == false) && ((r5 == r6) == true)) = true := fun h => h
    have ob6 : (((decide (r3 < r4)) == false) && ((r5 == r6) == true)) = true → (((decide (r3 < r4)) == false) && ((r5 == r6) == true)) = true := fun h => h
    obtain ⟨ob7, h⟩ := chk_some h
    have ob8 : ((decide (r3 < r4)) == false) = true → ((decide (r3 < r4)) == false) = true := fun h => h
    have ob9 : true = true → (decide (r3 < r4)) = false → ((decide (r3 < r4)) == false) = true := fun _ h => beq_iff_eq.2 h
    refine AWp.regC [] [(1, ⟨[.b16 x1], [], [], [], .int .i64 r3, [], [], []⟩), (3, ⟨[.b16 x2], [], [], [], .int .i64 r4, [], [], []⟩), (7, ⟨[.b16 x1], [], [], [], .int .i64 r5, [], [], []⟩), (9, ⟨[.b16 x2], [], [], [], .int .i64 r6, [], [], []⟩)] [24] [] ⟨25, [(24, .bool ((decide (r3 < r4)) || ((r5 == r6) && (decide (x1.toNat < x2.toNat)))))], [], [], 0⟩ ((callP Tryz.prog true 24 [] [] [] [] [] [.b16 x1] [.b16 x1] (.int .i64 r3) []) ∧ (callP Tryz.prog true 24 [] [] [] [] [] [.b16 x2] [.b16 x2] (.int .i64 r4) []) ∧ ((callP Tryz.prog ((decide (r3 < r4)) == false) 24 [] [] [] [] [] [.b16 x1] [.b16 x1] (.int .i64 r5) []) ∧ (((decide (r3 < r4)) == false) = true → ((decide (r3 < r4)) == false) = true) ∧ True) ∧ ((callP Tryz.prog ((decide (r3 < r4)) == false) 24 [] [] [] [] [] [.b16 x2] [.b16 x2] (.int .i64 r6) []) ∧ (((decide (r3 < r4)) == false) = true → ((decide (r3 < r4)) == false) = true) ∧ True) ∧ ((((decide (r3 < r4)) == false) = true → ((decide (r3 < r4)) == false) = true) ∧ (((decide (r3 < r4)) == false) = true → ((decide (r3 < r4)) == false) = true) ∧ True) ∧ ((((decide (r3 < r4)) == false) = true → ((decide (r3 < r4)) == false) = true) ∧ True) ∧ (((((decide (r3 < r4)) == false) && ((r5 == r6) == true)) = true → (((decide (r3 < r4)) == false) && ((r5 == r6) == true)) = true) ∧ ((((decide (r3 < r4)) == false) && ((r5 == r6) == true)) = true → (((decide (r3 < r4)) == false) && ((r5 == r6) == true)) = true) ∧ True) ∧ ((((decide (r3 < r4)) == false) = true → ((decide (r3 < r4)) == false) = true → (r5 == r6) = true → (((decide (r3 < r4)) == false) && ((r5 == r6) == true)) = true) ∧ (((decide (r3 < r4)) == false) = true → ((decide (r3 < r4)) == false) = true) ∧ True) ∧ (true = true → (decide (r3 < r4)) = false → ((decide (r3 < r4)) == false) = true) ∧ True) Tryz_mixed (by kernel_rfl) ⟨⟨fun _ => (f24_ok x1 r3 hr3), fun _ => ⟨.refl _, trivial⟩, .inl rfl⟩, ⟨fun _ => (f24_ok x2 r4 hr4), fun _ => ⟨.refl _, trivial⟩, .inl rfl⟩, ⟨⟨fun hc => (f24_ok x1 r5 (hr5 hc)), fun _ => ⟨.refl _, trivial⟩, .inl rfl⟩, ob0, trivial⟩, ⟨⟨fun hc => (f24_ok x2 r6 (hr6 hc)), fun _ => ⟨.refl _, trivial⟩, .inl rfl⟩, ob1, trivial⟩, ⟨ob2, ob3, trivial⟩, ⟨ob4, trivial⟩, ⟨ob5, ob6, trivial⟩, ⟨ob7, ob8, trivial⟩, ob9, trivial⟩ ?_
    refine thenQ_normal ?_
    refine AWp.cond (b := ((decide (r3 < r4)) || ((r5 == r6) && (decide (x1.toNat < x2.toNat))))) (by kernel_rfl) (fun hc2 => ?_) (fun hc2 => ?_)
    ·
      replace h := ite_tb hc2 h
      refine AWp.seq ?_
      refine AWp.regC [] [] [4] [] ⟨25, [(4, .int .i64 (-1 : Int))], [], [], 0⟩ (True) Tryz_mixed (by kernel_rfl) trivial ?_
      refine thenQ_normal ?_
      have hret := Option.some.inj h
      subst hret
      refine AWp.le (Le.mk (s := ⟨25, [(4, .int .i64 (-1 : Int))], [], [], 0⟩) (s' := ⟨25, [(4, .int .i64 (-1 : Int))], [], [], 0⟩) rfl rfl ⟨.refl _, trivial⟩ trivial) ?_
      refine AWp.ret ?_
      refine thenQ_ret ?_
      exact bodyQ_ret _ rfl ⟨rfl, rfl⟩ rfl
    ·
      replace h := ite_fb hc2 h
      refine AWp.skip ?_
      refine thenQ_normal ?_
      refine AWp.seq ?_
      refine AWp.regC [] [] [4] [] ⟨25, [(4, .int .i64 (1 : Int))], [], [], 0⟩ (True) Tryz_mixed (by kernel_rfl) trivial ?_
      refine thenQ_normal ?_
      have hret := Option.some.inj h
      subst hret
      refine AWp.le (Le.mk (s := ⟨25, [(4, .int .i64 (1 : Int))], [], [], 0⟩) (s' := ⟨25, [(4, .int .i64 (1 : Int))], [], [], 0⟩) rfl rfl ⟨.refl _, trivial⟩ trivial) ?_
      refine AWp.ret ?_
      exact bodyQ_ret _ rfl ⟨rfl, rfl⟩ rfl
def f45 (x1 : BitVec 16) (x2 : BitVec 16) (x3 : BitVec 16) (x4 : BitVec 16) : Option Int :=
  (f74 x1 x3).bind fun (r5 : Int) =>
  if (r5 != (0 : Int)) then (
  some r5
  ) else (
  (f74 x2 x4).bind fun (r6 : Int) =>
  some r6
  )
set_option maxRecDepth 100000 in
theorem f45_ok  (x1 : BitVec 16) (x2 : BitVec 16) (x3 : BitVec 16) (x4 : BitVec 16) (r : Int) (h : f45 x1 x2 x3 x4 = some r)  : Spec1 Tryz.prog 45 [] [] [] [.agg [.b16 x1, .b16 x2], .agg [.b16 x3, .b16 x4]] (.int .i64 r) [] := by
  unfold f45 at h
  refine Spec1.body 0 _ _ Tryz.func45 rfl Tryz.ntmps45 rfl rfl ?_
  refine AWp.seq ?_
  refine AWp.regC [] [] [2, 3] [2, 3] ⟨19, [(2, .ptr 2 0), (3, .ptr 3 0)], [(2, .cells 30 [.b16 x1, .b16 x2]), (3, .cells 30 [.b16 x3, .b16 x4])], [], 0⟩ (True) Tryz_mixed (by kernel_rfl) trivial ?_
  refine thenQ_normal ?_
  refine AWp.seq ?_
  refine AWp.seq ?_
  obtain ⟨r5, hr5, h⟩ := bind_ok h
  refine AWp.regC [] [(4, ⟨[.b16 x1, .b16 x3], [], [], [], .int .i64 r5, [], [], []⟩)] [2, 3, 5] [2, 3] ⟨19, [(2, .ptr 2 0), (3, .ptr 3 0), (5, .int .i64 r5)], [(2, .cells 30 [.b16 x1, .b16 x2]), (3, .cells 30 [.b16 x3, .b16 x4])], [], 0⟩ ((callP Tryz.prog true 74 [] [] [] [] [] [.b16 x1, .b16 x3] [.b16 x1, .b16 x3] (.int .i64 r5) []) ∧ True) Tryz_mixed (by kernel_rfl) ⟨⟨fun _ => (f74_ok x1 x3 r5 hr5), fun _ => ⟨.refl _, .refl _, trivial⟩, .inl rfl⟩, trivial⟩ ?_
  refine thenQ_normal ?_
  refine AWp.seq ?_
  refine AWp.regC [] [] [2, 3, 5, 12] [2, 3] ⟨19, [(2, .ptr 2 0), (3, .ptr 3 0), (5, .int .i64 r5), (12, .bool (r5 != (0 : Int)))], [(2, .cells 30 [.b16 x1, .b16 x2]), (3, .cells 30 [.b16 x3, .b16 x4])], [], 0⟩ (True) Tryz_mixed (by kernel_rfl) trivial ?_
  refine thenQ_normal ?_
  refine AWp.cond (b := (r5 != (0 : Int))) (by kernel_rfl) (fun hc1 => ?_) (fun hc1 => ?_)
  ·
    replace h := ite_tb hc1 h
    refine AWp.seq ?_
    refine AWp.regC [] [] [4] [] ⟨19, [(4, .int .i64 r5)], [], [], 0⟩ (True) Tryz_mixed (by kernel_rfl) trivial ?_
    refine thenQ_normal ?_
    have hret := Option.some.inj h
    subst hret
    refine AWp.le (Le.mk (s := ⟨19, [(4, .int .i64 r5)], [], [], 0⟩) (s' := ⟨19, [(4, .int .i64 r5)], [], [], 0⟩) rfl rfl ⟨.refl _, trivial⟩ trivial) ?_
    refine AWp.ret ?_
    refine thenQ_ret ?_
    exact bodyQ_ret _ rfl ⟨rfl, rfl⟩ rfl
  ·
    replace h := ite_fb hc1 h
    refine AWp.skip ?_
    refine thenQ_normal ?_
    refine AWp.seq ?_
    obtain ⟨r6, hr6, h⟩ := bind_ok h
    refine AWp.regC [] [(4, ⟨[.b16 x2, .b16 x4], [], [], [], .int .i64 r6, [], [], []⟩)] [4] [] ⟨19, [(4, .int .i64 r6)], [], [], 0⟩ ((callP Tryz.prog true 74 [] [] [] [] [] [.b16 x2, .b16 x4] [.b16 x2, .b16 x4] (.int .i64 r6) []) ∧ True) Tryz_mixed (by kernel_rfl) ⟨⟨fun _ => (f74_ok x2 x4 r6 hr6), fun _ => ⟨.refl _, .refl _, trivial⟩, .inl rfl⟩, trivial⟩ ?_
    refine thenQ_normal ?_
    have hret := Option.some.inj h
    subst hret
    refine AWp.le (Le.mk (s := ⟨19, [(4, .int .i64 r6)], [], [], 0⟩) (s' := ⟨19, [(4, .int .i64 r6)], [], [], 0⟩) rfl rfl ⟨.refl _, trivial⟩ trivial) ?_
    refine AWp.ret ?_
    exact bodyQ_ret _ rfl ⟨rfl, rfl⟩ rfl
def f15_L1 (x1 : List (BitVec 16 × BitVec 16)) (n2 : Nat) (K2 : Unit → Option Int) : Nat → Nat → Option Int
  | 0, _ => none
  | k + 1, n4 =>
    if (decide (((n4 : Nat) : Int) < ((n2 : Nat) : Int))) then (
    (f17 ((x1.getD n2 (default : BitVec 16 × BitVec 16)).1) ((x1.getD n2 (default : BitVec 16 × BitVec 16)).2) ((x1.getD n4 (default : BitVec 16 × BitVec 16)).1) ((x1.getD n4 (default : BitVec 16 × BitVec 16)).2)).bind fun (r5 : Bool) =>
    optc (r5 == false) (f17 ((x1.getD n4 (default : BitVec 16 × BitVec 16)).1) ((x1.getD n4 (default : BitVec 16 × BitVec 16)).2) ((x1.getD n2 (default : BitVec 16 × BitVec 16)).1) ((x1.getD n2 (default : BitVec 16 × BitVec 16)).2)) fun (r6 : Bool) =>
    chk (((n2 : Nat) : Int) < (((x1).length : Nat) : Int)) <|
    chk (((n4 : Nat) : Int) < (((x1).length : Nat) : Int)) <|
    chk ((r5 == false) = true → 0 ≤ ((n4 : Nat) : Int) ∧ ((n4 : Nat) : Int) < (((x1).length : Nat) : Int)) <|
    chk ((r5 == false) = true → 0 ≤ ((n2 : Nat) : Int) ∧ ((n2 : Nat) : Int) < (((x1).length : Nat) : Int)) <|
    if (r5 || r6) then (
    some (5 : Int)
    ) else (
    chk ((((n4 : Nat) : Int) + (1 : Int)) ≤ 9223372036854775807) <|
    (f15_L1 x1 n2 K2 k) (n4 + 1)
    )
    ) else (
    K2 ()
    )
def f15_L0 (x1 : List (BitVec 16 × BitVec 16)) (K1 : Unit → Option Int) : Nat → Nat → Option Int
  | 0, _ => none
  | k + 1, n2 =>
    if (decide (((n2 : Nat) : Int) < (((x1).length : Nat) : Int))) then (
    (f44 ((x1.getD n2 (default : BitVec 16 × BitVec 16)).1) ((x1.getD n2 (default : BitVec 16 × BitVec 16)).2)).bind fun (r3 : Int) =>
    chk (((n2 : Nat) : Int) < (((x1).length : Nat) : Int)) <|
    if (r3 != (0 : Int)) then (
    some r3
    ) else (
    jn (fun (_ : Unit) =>
    optc ((decide (((n2 : Nat) : Int) > (0 : Int))) == true) (f45 ((x1.getD (((((n2 : Nat) : Int) - (1 : Int))).toNat) (default : BitVec 16 × BitVec 16)).1) ((x1.getD (((((n2 : Nat) : Int) - (1 : Int))).toNat) (default : BitVec 16 × BitVec 16)).2) ((x1.getD n2 (default : BitVec 16 × BitVec 16)).1) ((x1.getD n2 (default : BitVec 16 × BitVec 16)).2)) fun (r7 : Int) =>
    chk (((decide (((n2 : Nat) : Int) > (0 : Int))) == true) = true → -9223372036854775808 ≤ (((n2 : Nat) : Int) - (1 : Int)) ∧ (((n2 : Nat) : Int) - (1 : Int)) ≤ 9223372036854775807) <|
    chk (((decide (((n2 : Nat) : Int) > (0 : Int))) == true) = true → 0 ≤ (((n2 : Nat) : Int) - (1 : Int)) ∧ (((n2 : Nat) : Int) - (1 : Int)) < (((x1).length : Nat) : Int)) <|
    chk (((decide (((n2 : Nat) : Int) > (0 : Int))) == true) = true → 0 ≤ ((n2 : Nat) : Int) ∧ ((n2 : Nat) : Int) < (((x1).length : Nat) : Int)) <|
    if ((decide (((n2 : Nat) : Int) > (0 : Int))) && (decide (r7 ≥ (0 : Int)))) then (
    some (1 : Int)
    ) else (
    chk ((((n2 : Nat) : Int) + (1 : Int)) ≤ 9223372036854775807) <|
    (f15_L0 x1 K1 k) (n2 + 1)
    )
    ) fun (K2 : Unit → Option Int) =>
    f15_L1 x1 n2 K2 FUEL 0
    )
    ) else (
    K1 ()
    )
def f15 (x1 : List (BitVec 16 × BitVec 16)) : Option Int :=
  if ((((x1).length : Nat) : Int) == (0 : Int)) then (
  some (9 : Int)
  ) else (
  if (decide ((((x1).length : Nat) : Int) > (100 : Int))) then (
  some (3 : Int)
  ) else (
  jn (fun (_ : Unit) =>
  some (0 : Int)
  ) fun (K1 : Unit → Option Int) =>
  f15_L0 x1 K1 FUEL 0
  )
  )
set_option maxRecDepth 100000 in
theorem f15_ok  (x1 : List (BitVec 16 × BitVec 16)) (r : Int) (h : f15 x1 = some r)  : Spec1 Tryz.prog 15 [] [] [] [vL 2 eWW (default : BitVec 16 × BitVec 16) x1] (.int .i64 r) [] := by
  unfold f15 at h
  refine Spec1.body 0 _ _ Tryz.func15 rfl Tryz.ntmps15 rfl rfl ?_
  refine AWp.seq ?_
  refine AWp.regC [] [] [0] [] ⟨66, [(0, vL 2 eWW (default : BitVec 16 × BitVec 16) x1)], [], [], 0⟩ (True) Tryz_mixed (by kernel_rfl) trivial ?_
  refine thenQ_normal ?_
  refine AWp.seq ?_
  refine AWp.seq ?_
  refine AWp.regC [] [] [0, 8] [] ⟨66, [(0, vL 2 eWW (default : BitVec 16 × BitVec 16) x1), (8, .bool ((((x1).length : Nat) : Int) == (0 : Int)))], [], [], 0⟩ (True) Tryz_mixed (by kernel_rfl) trivial ?_
  refine thenQ_normal ?_
  refine AWp.cond (b := ((((x1).length : Nat) : Int) == (0 : Int))) (by kernel_rfl) (fun hc1 => ?_) (fun hc1 => ?_)
  ·
    replace h := ite_tb hc1 h
    refine AWp.seq ?_
    refine AWp.regC [] [] [2] [] ⟨66, [(2, .int .i64 (9 : Int))], [], [], 0⟩ (True) Tryz_mixed (by kernel_rfl) trivial ?_
    refine thenQ_normal ?_
    have hret := Option.some.inj h
    subst hret
    refine AWp.le (Le.mk (s := ⟨66, [(2, .int .i64 (9 : Int))], [], [], 0⟩) (s' := ⟨66, [(2, .int .i64 (9 : Int))], [], [], 0⟩) rfl rfl ⟨.refl _, trivial⟩ trivial) ?_
    refine AWp.ret ?_
    refine thenQ_ret ?_
    exact bodyQ_ret _ rfl ⟨rfl, rfl⟩ rfl
  ·
    replace h := ite_fb hc1 h
    refine AWp.skip ?_
    refine thenQ_normal ?_
    refine AWp.seq ?_
    refine AWp.seq ?_
    refine AWp.regC [] [] [0, 11] [] ⟨66, [(0, vL 2 eWW (default : BitVec 16 × BitVec 16) x1), (11, .bool (decide ((((x1).length : Nat) : Int) > (100 : Int))))], [], [], 0⟩ (True) Tryz_mixed (by kernel_rfl) trivial ?_
    refine thenQ_normal ?_
    refine AWp.cond (b := (decide ((((x1).length : Nat) : Int) > (100 : Int)))) (by kernel_rfl) (fun hc2 => ?_) (fun hc2 => ?_)
    ·
      replace h := ite_tb hc2 h
      refine AWp.seq ?_
      refine AWp.regC [] [] [2] [] ⟨66, [(2, .int .i64 (3 : Int))], [], [], 0⟩ (True) Tryz_mixed (by kernel_rfl) trivial ?_
      refine thenQ_normal ?_
      have hret := Option.some.inj h
      subst hret
      refine AWp.le (Le.mk (s := ⟨66, [(2, .int .i64 (3 : Int))], [], [], 0⟩) (s' := ⟨66, [(2, .int .i64 (3 : Int))], [], [], 0⟩) rfl rfl ⟨.refl _, trivial⟩ trivial) ?_
      refine AWp.ret ?_
      refine thenQ_ret ?_
      exact bodyQ_ret _ rfl ⟨rfl, rfl⟩ rfl
    ·
      replace h := ite_fb hc2 h
      refine AWp.skip ?_
      refine thenQ_normal ?_
      obtain ⟨K1, hK1, h⟩ := jn_some h
      refine AWp.join (α := Unit) (fun (x : Unit) => match x with | () => ⟨66, [], [], [], 0⟩) (fun x => K1 x = some r) ?_ ?_
      ·
        refine AWp.seq ?_
        refine AWp.regC [] [] [0, 3] [] ⟨66, [(0, vL 2 eWW (default : BitVec 16 × BitVec 16) x1), (3, .int .i64 (0 : Int))], [], [], 0⟩ (True) Tryz_mixed (by kernel_rfl) trivial ?_
        refine thenQ_normal ?_
        refine AWp.block ?_
        refine AWp.loopL (α := Nat × Nat) (fun x => match x with | (_, n2) => ⟨66, [(0, vL 2 eWW (default : BitVec 16 × BitVec 16) x1), (3, .int .i64 ((n2 : Nat) : Int))], [], [], 0⟩) (fun x => f15_L0 x1 K1 x.1 x.2 = some r) (fun x => x.1) (FUEL, 0) (Le.mk (s := ⟨66, [(0, vL 2 eWW (default : BitVec 16 × BitVec 16) x1), (3, .int .i64 (0 : Int))], [], [], 0⟩) (s' := ⟨66, [(0, vL 2 eWW (default : BitVec 16 × BitVec 16) x1), (3, .int .i64 (0 : Int))], [], [], 0⟩) rfl rfl ⟨.refl _, .refl _, trivial⟩ trivial) h ?_
        rintro ⟨k0, n2⟩ h
        cases k0 with
        | zero => exact nomatch (show (none : Option Int) = some r from h)
        | succ k0 =>
        obtain ⟨C0, hC0⟩ : ∃ C, C = f15_L0 x1 K1 k0 := ⟨_, rfl⟩
        replace h := (f15_L0.eq_2 ..).symm.trans h
        try rw [← hC0] at h
        refine AWp.seq ?_
        refine AWp.seq ?_
        refine AWp.regC [] [] [0, 3, 15] [] ⟨66, [(0, vL 2 eWW (default : BitVec 16 × BitVec 16) x1), (3, .int .i64 ((n2 : Nat) : Int)), (15, .bool (decide (((n2 : Nat) : Int) < (((x1).length : Nat) : Int))))], [], [], 0⟩ (True) Tryz_mixed (by kernel_rfl) trivial ?_
        refine thenQ_normal ?_
        refine AWp.cond (b := (decide (((n2 : Nat) : Int) < (((x1).length : Nat) : Int)))) (by kernel_rfl) (fun hc3 => ?_) (fun hc3 => ?_)
        ·
          replace h := ite_tb hc3 h
          refine AWp.skip ?_
          refine thenQ_normal ?_
          refine AWp.seq ?_
          refine AWp.block ?_
          refine AWp.seq ?_
          refine AWp.seq ?_
          obtain ⟨r3, hr3, h⟩ := bind_ok h
          obtain ⟨ob0p, h⟩ := chk_some h
          have ob0 : 0 ≤ ((n2 : Nat) : Int) ∧ ((n2 : Nat) : Int) < (((x1).length : Nat) : Int) := ⟨by omega, ob0p⟩
          refine AWp.regC [] [(4, ⟨[.agg [.b16 (x1.getD n2 (default : BitVec 16 × BitVec 16)).1, .b16 (x1.getD n2 (default : BitVec 16 × BitVec 16)).2]], [], [], [], .int .i64 r3, [], [], []⟩)] [0, 3, 4] [] ⟨66, [(0, vL 2 eWW (default : BitVec 16 × BitVec 16) x1), (3, .int .i64 ((n2 : Nat) : Int)), (4, .int .i64 r3)], [], [], 0⟩ ((0 ≤ ((n2 : Nat) : Int) ∧ ((n2 : Nat) : Int) < (((x1).length : Nat) : Int)) ∧ (callP Tryz.prog true 44 [] [] [] [] [] [.agg [.b16 (x1.getD n2 (default : BitVec 16 × BitVec 16)).1, .b16 (x1.getD n2 (default : BitVec 16 × BitVec 16)).2]] [.agg [.b16 (x1.getD n2 (default : BitVec 16 × BitVec 16)).1, .b16 (x1.getD n2 (default : BitVec 16 × BitVec 16)).2]] (.int .i64 r3) []) ∧ True) Tryz_mixed (by kernel_rfl) ⟨ob0, ⟨fun _ => (f44_ok ((x1.getD n2 (default : BitVec 16 × BitVec 16)).1) ((x1.getD n2 (default : BitVec 16 × BitVec 16)).2) r3 hr3), fun _ => ⟨.refl _, trivial⟩, .inl rfl⟩, trivial⟩ ?_
          refine thenQ_normal ?_
          refine AWp.seq ?_
          refine AWp.regC [] [] [0, 3, 4, 24] [] ⟨66, [(0, vL 2 eWW (default : BitVec 16 × BitVec 16) x1), (3, .int .i64 ((n2 : Nat) : Int)), (4, .int .i64 r3), (24, .bool (r3 != (0 : Int)))], [], [], 0⟩ (True) Tryz_mixed (by kernel_rfl) trivial ?_
          refine thenQ_normal ?_
          refine AWp.cond (b := (r3 != (0 : Int))) (by kernel_rfl) (fun hc4 => ?_) (fun hc4 => ?_)
          ·
            replace h := ite_tb hc4 h
            refine AWp.seq ?_
            refine AWp.regC [] [] [2] [] ⟨66, [(2, .int .i64 r3)], [], [], 0⟩ (True) Tryz_mixed (by kernel_rfl) trivial ?_
            refine thenQ_normal ?_
            have hret := Option.some.inj h
            subst hret
            refine AWp.le (Le.mk (s := ⟨66, [(2, .int .i64 r3)], [], [], 0⟩) (s' := ⟨66, [(2, .int .i64 r3)], [], [], 0⟩) rfl rfl ⟨.refl _, trivial⟩ trivial) ?_
            refine AWp.ret ?_
            refine thenQ_ret ?_
            refine blockQ_ret ?_
            refine thenQ_ret ?_
            refine thenQ_ret ?_
            refine blockQ_ret ?_
            refine joinQ_ret ?_
            exact bodyQ_ret _ rfl ⟨rfl, rfl⟩ rfl
          ·
            replace h := ite_fb hc4 h
            refine AWp.skip ?_
            refine thenQ_normal ?_
            obtain ⟨K2, hK2, h⟩ := jn_some h
            refine AWp.join (α := Unit) (fun (x : Unit) => match x with | () => ⟨66, [(0, vL 2 eWW (default : BitVec 16 × BitVec 16) x1), (3, .int .i64 ((n2 : Nat) : Int))], [], [], 0⟩) (fun x => K2 x = some r) ?_ ?_
            ·
              refine AWp.seq ?_
              refine AWp.regC [] [] [0, 3, 5] [] ⟨66, [(0, vL 2 eWW (default : BitVec 16 × BitVec 16) x1), (3, .int .i64 ((n2 : Nat) : Int)), (5, .int .i64 (0 : Int))], [], [], 0⟩ (True) Tryz_mixed (by kernel_rfl) trivial ?_
              refine thenQ_normal ?_
              refine AWp.block ?_
              refine AWp.loopL (α := Nat × Nat) (fun x => match x with | (_, n4) => ⟨66, [(0, vL 2 eWW (default : BitVec 16 × BitVec 16) x1), (3, .int .i64 ((n2 : Nat) : Int)), (5, .int .i64 ((n4 : Nat) : Int))], [], [], 0⟩) (fun x => f15_L1 x1 n2 K2 x.1 x.2 = some r) (fun x => x.1) (FUEL, 0) (Le.mk (s := ⟨66, [(0, vL 2 eWW (default : BitVec 16 × BitVec 16) x1), (3, .int .i64 ((n2 : Nat) : Int)), (5, .int .i64 (0 : Int))], [], [], 0⟩) (s' := ⟨66, [(0, vL 2 eWW (default : BitVec 16 × BitVec 16) x1), (3, .int .i64 ((n2 : Nat) : Int)), (5, .int .i64 (0 : Int))], [], [], 0⟩) rfl rfl ⟨.refl _, .refl _, .refl _, trivial⟩ trivial) h ?_
              rintro ⟨k1, n4⟩ h
              cases k1 with
              | zero => exact nomatch (show (none : Option Int) = some r from h)
              | succ k1 =>
              obtain ⟨C1, hC1⟩ : ∃ C, C = f15_L1 x1 n2 K2 k1 := ⟨_, rfl⟩
              replace h := (f15_L1.eq_2 ..).symm.trans h
              try rw [← hC1] at h
              refine AWp.seq ?_
              refine AWp.seq ?_
              refine AWp.regC [] [] [0, 3, 5, 28] [] ⟨66, [(0, vL 2 eWW (default : BitVec 16 × BitVec 16) x1), (3, .int .i64 ((n2 : Nat) : Int)), (5, .int .i64 ((n4 : Nat) : Int)), (28, .bool (decide (((n4 : Nat) : Int) < ((n2 : Nat) : Int))))], [], [], 0⟩ (True) Tryz_mixed (by kernel_rfl) trivial ?_
              refine thenQ_normal ?_
              refine AWp.cond (b := (decide (((n4 : Nat) : Int) < ((n2 : Nat) : Int)))) (by kernel_rfl) (fun hc5 => ?_) (fun hc5 => ?_)
              ·
                replace h := ite_tb hc5 h
                refine AWp.skip ?_
                refine thenQ_normal ?_
                refine AWp.seq ?_
                refine AWp.block ?_
                refine AWp.seq ?_
                obtain ⟨r5, hr5, h⟩ := bind_ok h
                obtain ⟨r6, hr6, h⟩ := optc_some h
                obtain ⟨ob1p, h⟩ := chk_some h
                have ob1 : 0 ≤ ((n2 : Nat) : Int) ∧ ((n2 : Nat) : Int) < (((x1).length : Nat) : Int) := ⟨by omega, ob1p⟩
                obtain ⟨ob2p, h⟩ := chk_some h
                have ob2 : 0 ≤ ((n4 : Nat) : Int) ∧ ((n4 : Nat) : Int) < (((x1).length : Nat) : Int) := ⟨by omega, ob2p⟩
                obtain ⟨ob3, h⟩ := chk_some h
                have ob4 : (r5 == false) = true → (r5 == false) = true := fun h => h
                have ob5 : (r5 == false) = true → (r5 == false) = true := fun h => h
                have ob6 : (r5 == false) = true → (r5 == false) = true := fun h => h
                obtain ⟨ob7, h⟩ := chk_some h
                have ob8 : (r5 == false) = true → (r5 == false) = true := fun h => h
                have ob9 : (r5 == false) = true → (r5 == false) = true := fun h => h
                have ob10 : (r5 == false) = true → (r5 == false) = true := fun h => h
                have ob11 : (r5 == false) = true → (r5 == false) = true := fun h => h
                have ob12 : (r5 == false) = true → (r5 == false) = true := fun h => h
                have ob13 : true = true → r5 = false → (r5 == false) = true := fun _ h => beq_iff_eq.2 h
                refine AWp.regC [] [(8, ⟨[.agg [.b16 (x1.getD n2 (default : BitVec 16 × BitVec 16)).1, .b16 (x1.getD n2 (default : BitVec 16 × BitVec 16)).2], .agg [.b16 (x1.getD n4 (default : BitVec 16 × BitVec 16)).1, .b16 (x1.getD n4 (default : BitVec 16 × BitVec 16)).2]], [], [], [], .bool r5, [], [], []⟩), (18, ⟨[.agg [.b16 (x1.getD n4 (default : BitVec 16 × BitVec 16)).1, .b16 (x1.getD n4 (default : BitVec 16 × BitVec 16)).2], .agg [.b16 (x1.getD n2 (default : BitVec 16 × BitVec 16)).1, .b16 (x1.getD n2 (default : BitVec 16 × BitVec 16)).2]], [], [], [], .bool r6, [], [], []⟩)] [0, 3, 5, 50] [] ⟨66, [(0, vL 2 eWW (default : BitVec 16 × BitVec 16) x1), (3, .int .i64 ((n2 : Nat) : Int)), (5, .int .i64 ((n4 : Nat) : Int)), (50, .bool (r5 || r6))], [], [], 0⟩ ((0 ≤ ((n2 : Nat) : Int) ∧ ((n2 : Nat) : Int) < (((x1).length : Nat) : Int)) ∧ (0 ≤ ((n4 : Nat) : Int) ∧ ((n4 : Nat) : Int) < (((x1).length : Nat) : Int)) ∧ (callP Tryz.prog true 17 [] [] [] [] [] [.agg [.b16 (x1.getD n2 (default : BitVec 16 × BitVec 16)).1, .b16 (x1.getD n2 (default : BitVec 16 × BitVec 16)).2], .agg [.b16 (x1.getD n4 (default : BitVec 16 × BitVec 16)).1, .b16 (x1.getD n4 (default : BitVec 16 × BitVec 16)).2]] [.agg [.b16 (x1.getD n2 (default : BitVec 16 × BitVec 16)).1, .b16 (x1.getD n2 (default : BitVec 16 × BitVec 16)).2], .agg [.b16 (x1.getD n4 (default : BitVec 16 × BitVec 16)).1, .b16 (x1.getD n4 (default : BitVec 16 × BitVec 16)).2]] (.bool r5) []) ∧ (((r5 == false) = true → 0 ≤ ((n4 : Nat) : Int) ∧ ((n4 : Nat) : Int) < (((x1).length : Nat) : Int)) ∧ ((r5 == false) = true → (r5 == false) = true) ∧ ((r5 == false) = true → (r5 == false) = true) ∧ True) ∧ (((r5 == false) = true → (r5 == false) = true) ∧ True) ∧ (((r5 == false) = true → 0 ≤ ((n2 : Nat) : Int) ∧ ((n2 : Nat) : Int) < (((x1).length : Nat) : Int)) ∧ ((r5 == false) = true → (r5 == false) = true) ∧ ((r5 == false) = true → (r5 == false) = true) ∧ True) ∧ (((r5 == false) = true → (r5 == false) = true) ∧ True) ∧ ((callP Tryz.prog (r5 == false) 17 [] [] [] [] [] [.agg [.b16 (x1.getD n4 (default : BitVec 16 × BitVec 16)).1, .b16 (x1.getD n4 (default : BitVec 16 × BitVec 16)).2], .agg [.b16 (x1.getD n2 (default : BitVec 16 × BitVec 16)).1, .b16 (x1.getD n2 (default : BitVec 16 × BitVec 16)).2]] [.agg [.b16 (x1.getD n4 (default : BitVec 16 × BitVec 16)).1, .b16 (x1.getD n4 (default : BitVec 16 × BitVec 16)).2], .agg [.b16 (x1.getD n2 (default : BitVec 16 × BitVec 16)).1, .b16 (x1.getD n2 (default : BitVec 16 × BitVec 16)).2]] (.bool r6) []) ∧ ((r5 == false) = true → (r5 == false) = true) ∧ ((r5 == false) = true → (r5 == false) = true) ∧ True) ∧ (true = true → r5 = false → (r5 == false) = true) ∧ True) Tryz_mixed (by kernel_rfl) ⟨ob1, ob2, ⟨fun _ => (f17_ok ((x1.getD n2 (default : BitVec 16 × BitVec 16)).1) ((x1.getD n2 (default : BitVec 16 × BitVec 16)).2) ((x1.getD n4 (default : BitVec 16 × BitVec 16)).1) ((x1.getD n4 (default : BitVec 16 × BitVec 16)).2) r5 hr5), fun _ => ⟨.refl _, .refl _, trivial⟩, .inl rfl⟩, ⟨ob3, ob4, ob5, trivial⟩, ⟨ob6, trivial⟩, ⟨ob7, ob8, ob9, trivial⟩, ⟨ob10, trivial⟩, ⟨⟨fun hc => (f17_ok ((x1.getD n4 (default : BitVec 16 × BitVec 16)).1) ((x1.getD n4 (default : BitVec 16 × BitVec 16)).2) ((x1.getD n2 (default : BitVec 16 × BitVec 16)).1) ((x1.getD n2 (default : BitVec 16 × BitVec 16)).2) r6 (hr6 hc)), fun _ => ⟨.refl _, .refl _, trivial⟩, .inl rfl⟩, ob11, ob12, trivial⟩, ob13, trivial⟩ ?_
                refine thenQ_normal ?_
                refine AWp.cond (b := (r5 || r6)) (by kernel_rfl) (fun hc6 => ?_) (fun hc6 => ?_)
                ·
                  replace h := ite_tb hc6 h
                  refine AWp.seq ?_
                  refine AWp.regC [] [] [2] [] ⟨66, [(2, .int .i64 (5 : Int))], [], [], 0⟩ (True) Tryz_mixed (by kernel_rfl) trivial ?_
                  refine thenQ_normal ?_
                  have hret := Option.some.inj h
                  subst hret
                  refine AWp.le (Le.mk (s := ⟨66, [(2, .int .i64 (5 : Int))], [], [], 0⟩) (s' := ⟨66, [(2, .int .i64 (5 : Int))], [], [], 0⟩) rfl rfl ⟨.refl _, trivial⟩ trivial) ?_
                  refine AWp.ret ?_
                  refine blockQ_ret ?_
                  refine thenQ_ret ?_
                  refine thenQ_ret ?_
                  refine blockQ_ret ?_
                  refine joinQ_ret ?_
                  refine blockQ_ret ?_
                  refine thenQ_ret ?_
                  refine thenQ_ret ?_
                  refine blockQ_ret ?_
                  refine joinQ_ret ?_
                  exact bodyQ_ret _ rfl ⟨rfl, rfl⟩ rfl
                ·
                  replace h := ite_fb hc6 h
                  refine AWp.skip ?_
                  refine blockQ_normal ?_
                  refine thenQ_normal ?_
                  obtain ⟨ob14p, h⟩ := chk_some h
                  have ob14 : -9223372036854775808 ≤ (((n4 : Nat) : Int) + (1 : Int)) ∧ (((n4 : Nat) : Int) + (1 : Int)) ≤ 9223372036854775807 := ⟨by omega, ob14p⟩
                  refine AWp.regC [] [] [0, 3, 5] [] ⟨66, [(0, vL 2 eWW (default : BitVec 16 × BitVec 16) x1), (3, .int .i64 ((n2 : Nat) : Int)), (5, .int .i64 (((n4 + 1) : Nat) : Int))], [], [], 0⟩ ((-9223372036854775808 ≤ (((n4 : Nat) : Int) + (1 : Int)) ∧ (((n4 : Nat) : Int) + (1 : Int)) ≤ 9223372036854775807) ∧ True) Tryz_mixed (by kernel_rfl) ⟨ob14, trivial⟩ ?_
                  rw [hC1] at h
                  exact loopQ_normal (_, (n4 + 1)) (Le.mk (s := ⟨66, [(0, vL 2 eWW (default : BitVec 16 × BitVec 16) x1), (3, .int .i64 ((n2 : Nat) : Int)), (5, .int .i64 (((n4 + 1) : Nat) : Int))], [], [], 0⟩) (s' := ⟨66, [(0, vL 2 eWW (default : BitVec 16 × BitVec 16) x1), (3, .int .i64 ((n2 : Nat) : Int)), (5, .int .i64 (((n4 + 1) : Nat) : Int))], [], [], 0⟩) rfl rfl ⟨.refl _, .refl _, .refl _, trivial⟩ trivial) h (Nat.lt_succ_self _)
              ·
                replace h := ite_fb hc5 h
                refine AWp.exit ?_
                refine thenQ_exit ?_
                refine thenQ_exit ?_
                refine blockQ_same ?_
                exact joinQ_normal () (Le.mk (s := ⟨66, [(0, vL 2 eWW (default : BitVec 16 × BitVec 16) x1), (3, .int .i64 ((n2 : Nat) : Int)), (5, .int .i64 ((n4 : Nat) : Int)), (28, .bool (decide (((n4 : Nat) : Int) < ((n2 : Nat) : Int))))], [], [], 0⟩) (s' := ⟨66, [(0, vL 2 eWW (default : BitVec 16 × BitVec 16) x1), (3, .int .i64 ((n2 : Nat) : Int))], [], [], 0⟩) rfl rfl ⟨.refl _, .refl _, trivial⟩ trivial) h
            ·
              rintro ⟨⟩ h
              replace h := (congrFun hK2 _).symm.trans h
              refine AWp.seq ?_
              obtain ⟨r7, hr7, h⟩ := optc_some h
              obtain ⟨ob15, h⟩ := chk_some h
              have ob16 : ((decide (((n2 : Nat) : Int) > (0 : Int))) == true) = true → ((decide (((n2 : Nat) : Int) > (0 : Int))) == true) = true := fun h => h
              obtain ⟨ob17, h⟩ := chk_some h
              have ob18 : ((decide (((n2 : Nat) : Int) > (0 : Int))) == true) = true → ((decide (((n2 : Nat) : Int) > (0 : Int))) == true) = true := fun h => h
              have ob19 : ((decide (((n2 : Nat) : Int) > (0 : Int))) == true) = true → ((decide (((n2 : Nat) : Int) > (0 : Int))) == true) = true := fun h => h
              have ob20 : ((decide (((n2 : Nat) : Int) > (0 : Int))) == true) = true → ((decide (((n2 : Nat) : Int) > (0 : Int))) == true) = true := fun h => h
              obtain ⟨ob21, h⟩ := chk_some h
              have ob22 : ((decide (((n2 : Nat) : Int) > (0 : Int))) == true) = true → ((decide (((n2 : Nat) : Int) > (0 : Int))) == true) = true := fun h => h
              have ob23 : ((decide (((n2 : Nat) : Int) > (0 : Int))) == true) = true → ((decide (((n2 : Nat) : Int) > (0 : Int))) == true) = true := fun h => h
              have ob24 : ((decide (((n2 : Nat) : Int) > (0 : Int))) == true) = true → ((decide (((n2 : Nat) : Int) > (0 : Int))) == true) = true := fun h => h
              have ob25 : ((decide (((n2 : Nat) : Int) > (0 : Int))) == true) = true → ((decide (((n2 : Nat) : Int) > (0 : Int))) == true) = true := fun h => h
              have ob26 : ((decide (((n2 : Nat) : Int) > (0 : Int))) == true) = true → ((decide (((n2 : Nat) : Int) > (0 : Int))) == true) = true := fun h => h
              have ob27 : ((decide (((n2 : Nat) : Int) > (0 : Int))) == true) = true → ((decide (((n2 : Nat) : Int) > (0 : Int))) == true) = true := fun h => h
              have ob28 : true = true → (decide (((n2 : Nat) : Int) > (0 : Int))) = true → ((decide (((n2 : Nat) : Int) > (0 : Int))) == true) = true := fun _ h => beq_iff_eq.2 h
              refine AWp.regC [] [(12, ⟨[.agg [.b16 (x1.getD (((((n2 : Nat) : Int) - (1 : Int))).toNat) (default : BitVec 16 × BitVec 16)).1, .b16 (x1.getD (((((n2 : Nat) : Int) - (1 : Int))).toNat) (default : BitVec 16 × BitVec 16)).2], .agg [.b16 (x1.getD n2 (default : BitVec 16 × BitVec 16)).1, .b16 (x1.getD n2 (default : BitVec 16 × BitVec 16)).2]], [], [], [], .int .i64 r7, [], [], []⟩)] [0, 3, 65] [] ⟨66, [(0, vL 2 eWW (default : BitVec 16 × BitVec 16) x1), (3, .int .i64 ((n2 : Nat) : Int)), (65, .bool ((decide (((n2 : Nat) : Int) > (0 : Int))) && (decide (r7 ≥ (0 : Int)))))], [], [], 0⟩ (((((decide (((n2 : Nat) : Int) > (0 : Int))) == true) = true → -9223372036854775808 ≤ (((n2 : Nat) : Int) - (1 : Int)) ∧ (((n2 : Nat) : Int) - (1 : Int)) ≤ 9223372036854775807) ∧ (((decide (((n2 : Nat) : Int) > (0 : Int))) == true) = true → ((decide (((n2 : Nat) : Int) > (0 : Int))) == true) = true) ∧ True) ∧ ((((decide (((n2 : Nat) : Int) > (0 : Int))) == true) = true → 0 ≤ (((n2 : Nat) : Int) - (1 : Int)) ∧ (((n2 : Nat) : Int) - (1 : Int)) < (((x1).length : Nat) : Int)) ∧ (((decide (((n2 : Nat) : Int) > (0 : Int))) == true) = true → ((decide (((n2 : Nat) : Int) > (0 : Int))) == true) = true) ∧ (((decide (((n2 : Nat) : Int) > (0 : Int))) == true) = true → ((decide (((n2 : Nat) : Int) > (0 : Int))) == true) = true) ∧ True) ∧ ((((decide (((n2 : Nat) : Int) > (0 : Int))) == true) = true → ((decide (((n2 : Nat) : Int) > (0 : Int))) == true) = true) ∧ True) ∧ ((((decide (((n2 : Nat) : Int) > (0 : Int))) == true) = true → 0 ≤ ((n2 : Nat) : Int) ∧ ((n2 : Nat) : Int) < (((x1).length : Nat) : Int)) ∧ (((decide (((n2 : Nat) : Int) > (0 : Int))) == true) = true → ((decide (((n2 : Nat) : Int) > (0 : Int))) == true) = true) ∧ (((decide (((n2 : Nat) : Int) > (0 : Int))) == true) = true → ((decide (((n2 : Nat) : Int) > (0 : Int))) == true) = true) ∧ True) ∧ ((((decide (((n2 : Nat) : Int) > (0 : Int))) == true) = true → ((decide (((n2 : Nat) : Int) > (0 : Int))) == true) = true) ∧ True) ∧ ((callP Tryz.prog ((decide (((n2 : Nat) : Int) > (0 : Int))) == true) 45 [] [] [] [] [] [.agg [.b16 (x1.getD (((((n2 : Nat) : Int) - (1 : Int))).toNat) (default : BitVec 16 × BitVec 16)).1, .b16 (x1.getD (((((n2 : Nat) : Int) - (1 : Int))).toNat) (default : BitVec 16 × BitVec 16)).2], .agg [.b16 (x1.getD n2 (default : BitVec 16 × BitVec 16)).1, .b16 (x1.getD n2 (default : BitVec 16 × BitVec 16)).2]] [.agg [.b16 (x1.getD (((((n2 : Nat) : Int) - (1 : Int))).toNat) (default : BitVec 16 × BitVec 16)).1, .b16 (x1.getD (((((n2 : Nat) : Int) - (1 : Int))).toNat) (default : BitVec 16 × BitVec 16)).2], .agg [.b16 (x1.getD n2 (default : BitVec 16 × BitVec 16)).1, .b16 (x1.getD n2 (default : BitVec 16 × BitVec 16)).2]] (.int .i64 r7) []) ∧ (((decide (((n2 : Nat) : Int) > (0 : Int))) == true) = true → ((decide (((n2 : Nat) : Int) > (0 : Int))) == true) = true) ∧ (((decide (((n2 : Nat) : Int) > (0 : Int))) == true) = true → ((decide (((n2 : Nat) : Int) > (0 : Int))) == true) = true) ∧ True) ∧ ((((decide (((n2 : Nat) : Int) > (0 : Int))) == true) = true → ((decide (((n2 : Nat) : Int) > (0 : Int))) == true) = true) ∧ True) ∧ (true = true → (decide (((n2 : Nat) : Int) > (0 : Int))) = true → ((decide (((n2 : Nat) : Int) > (0 : Int))) == true) = true) ∧ True) Tryz_mixed (by kernel_rfl) ⟨⟨ob15, ob16, trivial⟩, ⟨ob17, ob18, ob19, trivial⟩, ⟨ob20, trivial⟩, ⟨ob21, ob22, ob23, trivial⟩, ⟨ob24, trivial⟩, ⟨⟨fun hc => (f45_ok ((x1.getD (((((n2 : Nat) : Int) - (1 : Int))).toNat) (default : BitVec 16 × BitVec 16)).1) ((x1.getD (((((n2 : Nat) : Int) - (1 : Int))).toNat) (default : BitVec 16 × BitVec 16)).2) ((x1.getD n2 (default : BitVec 16 × BitVec 16)).1) ((x1.getD n2 (default : BitVec 16 × BitVec 16)).2) r7 (hr7 hc)), fun _ => ⟨.refl _, .refl _, trivial⟩, .inl rfl⟩, ob25, ob26, trivial⟩, ⟨ob27, trivial⟩, ob28, trivial⟩ ?_
              refine thenQ_normal ?_
              refine AWp.cond (b := ((decide (((n2 : Nat) : Int) > (0 : Int))) && (decide (r7 ≥ (0 : Int))))) (by kernel_rfl) (fun hc7 => ?_) (fun hc7 => ?_)
              ·
                replace h := ite_tb hc7 h
                refine AWp.seq ?_
                refine AWp.regC [] [] [2] [] ⟨66, [(2, .int .i64 (1 : Int))], [], [], 0⟩ (True) Tryz_mixed (by kernel_rfl) trivial ?_
                refine thenQ_normal ?_
                have hret := Option.some.inj h
                subst hret
                refine AWp.le (Le.mk (s := ⟨66, [(2, .int .i64 (1 : Int))], [], [], 0⟩) (s' := ⟨66, [(2, .int .i64 (1 : Int))], [], [], 0⟩) rfl rfl ⟨.refl _, trivial⟩ trivial) ?_
                refine AWp.ret ?_
                refine blockQ_ret ?_
                refine thenQ_ret ?_
                refine thenQ_ret ?_
                refine blockQ_ret ?_
                refine joinQ_ret ?_
                exact bodyQ_ret _ rfl ⟨rfl, rfl⟩ rfl
              ·
                replace h := ite_fb hc7 h
                refine AWp.skip ?_
                refine blockQ_normal ?_
                refine thenQ_normal ?_
                obtain ⟨ob29p, h⟩ := chk_some h
                have ob29 : -9223372036854775808 ≤ (((n2 : Nat) : Int) + (1 : Int)) ∧ (((n2 : Nat) : Int) + (1 : Int)) ≤ 9223372036854775807 := ⟨by omega, ob29p⟩
                refine AWp.regC [] [] [0, 3] [] ⟨66, [(0, vL 2 eWW (default : BitVec 16 × BitVec 16) x1), (3, .int .i64 (((n2 + 1) : Nat) : Int))], [], [], 0⟩ ((-9223372036854775808 ≤ (((n2 : Nat) : Int) + (1 : Int)) ∧ (((n2 : Nat) : Int) + (1 : Int)) ≤ 9223372036854775807) ∧ True) Tryz_mixed (by kernel_rfl) ⟨ob29, trivial⟩ ?_
                rw [hC0] at h
                exact loopQ_normal (_, (n2 + 1)) (Le.mk (s := ⟨66, [(0, vL 2 eWW (default : BitVec 16 × BitVec 16) x1), (3, .int .i64 (((n2 + 1) : Nat) : Int))], [], [], 0⟩) (s' := ⟨66, [(0, vL 2 eWW (default : BitVec 16 × BitVec 16) x1), (3, .int .i64 (((n2 + 1) : Nat) : Int))], [], [], 0⟩) rfl rfl ⟨.refl _, .refl _, trivial⟩ trivial) h (Nat.lt_succ_self _)
        ·
          replace h := ite_fb hc3 h
          refine AWp.exit ?_
          refine thenQ_exit ?_
          refine thenQ_exit ?_
          refine blockQ_same ?_
          exact joinQ_normal () (Le.mk (s := ⟨66, [(0, vL 2 eWW (default : BitVec 16 × BitVec 16) x1), (3, .int .i64 ((n2 : Nat) : Int)), (15, .bool (decide (((n2 : Nat) : Int) < (((x1).length : Nat) : Int))))], [], [], 0⟩) (s' := ⟨66, [], [], [], 0⟩) rfl rfl trivial trivial) h
      ·
        rintro ⟨⟩ h
        replace h := (congrFun hK1 _).symm.trans h
        refine AWp.seq ?_
        refine AWp.regC [] [] [2] [] ⟨66, [(2, .int .i64 (0 : Int))], [], [], 0⟩ (True) Tryz_mixed (by kernel_rfl) trivial ?_
        refine thenQ_normal ?_
        have hret := Option.some.inj h
        subst hret
        refine AWp.le (Le.mk (s := ⟨66, [(2, .int .i64 (0 : Int))], [], [], 0⟩) (s' := ⟨66, [(2, .int .i64 (0 : Int))], [], [], 0⟩) rfl rfl ⟨.refl _, trivial⟩ trivial) ?_
        refine AWp.ret ?_
        exact bodyQ_ret _ rfl ⟨rfl, rfl⟩ rfl
def f3 (x1 : List (BitVec 16 × BitVec 16)) : Option Bool :=
  (f12 ).bind fun (r2 : Bool) =>
  if ((!r2) || (decide ((((x1).length : Nat) : Int) > (120 : Int)))) then (
  (f12 ).bind fun (r3 : Bool) =>
  some r3
  ) else (
  (f14 x1).bind fun (r4 : List (BitVec 16 × BitVec 16)) =>
  (f13 r4).bind fun (r5 : Int) =>
  (f15 x1).bind fun (r6 : Int) =>
  some (r5 == r6)
  )
set_option maxRecDepth 100000 in
theorem f3_ok  (x1 : List (BitVec 16 × BitVec 16)) (r : Bool) (h : f3 x1 = some r)  : Spec1 Tryz.prog 3 [(0, .elem 32 1 T0F 0 0), (6, .elem 20 1 T6F 0 0)] [] [] [vL 2 eWW (default : BitVec 16 × BitVec 16) x1] (.bool r) [] := by
  unfold f3 at h
  refine Spec1.body 0 _ _ Tryz.func3 rfl Tryz.ntmps3 rfl rfl ?_
  refine AWp.seq ?_
  refine AWp.regC [] [] [0, 1000000, 1000006] [] ⟨17, [(0, vL 2 eWW (default : BitVec 16 × BitVec 16) x1), (1000000, .elem 32 1 T0F 0 0), (1000006, .elem 20 1 T6F 0 0)], [], [], 0⟩ (True) Tryz_mixed (by kernel_rfl) trivial ?_
  refine thenQ_normal ?_
  refine AWp.seq ?_
  refine AWp.seq ?_
  obtain ⟨r2, hr2, h⟩ := bind_ok h
  have ob0 : ((!r2) == false) = true → ((!r2) == false) = true := fun h => h
  have ob1 : ((!r2) == false) = true → ((!r2) == false) = true := fun h => h
  have ob2 : true = true → (!r2) = false → ((!r2) == false) = true := fun _ h => beq_iff_eq.2 h
  refine AWp.regC [] [(0, ⟨[], [], [], [], .bool r2, [], [], [0, 6]⟩)] [0, 9, 1000000, 1000006] [] ⟨17, [(0, vL 2 eWW (default : BitVec 16 × BitVec 16) x1), (9, .bool ((!r2) || (decide ((((x1).length : Nat) : Int) > (120 : Int))))), (1000000, .elem 32 1 T0F 0 0), (1000006, .elem 20 1 T6F 0 0)], [], [], 0⟩ ((callP Tryz.prog true 12 [(0, .elem 32 1 T0F 0 0), (6, .elem 20 1 T6F 0 0)] [] [] [] [] [] [] (.bool r2) []) ∧ ((((!r2) == false) = true → ((!r2) == false) = true) ∧ True) ∧ ((((!r2) == false) = true → ((!r2) == false) = true) ∧ True) ∧ (true = true → (!r2) = false → ((!r2) == false) = true) ∧ True) Tryz_mixed (by kernel_rfl) ⟨⟨fun _ => (f12_ok  r2 hr2), fun _ => trivial, .inl rfl⟩, ⟨ob0, trivial⟩, ⟨ob1, trivial⟩, ob2, trivial⟩ ?_
  refine thenQ_normal ?_
  refine AWp.cond (b := ((!r2) || (decide ((((x1).length : Nat) : Int) > (120 : Int))))) (by kernel_rfl) (fun hc1 => ?_) (fun hc1 => ?_)
  ·
    replace h := ite_tb hc1 h
    refine AWp.seq ?_
    obtain ⟨r3, hr3, h⟩ := bind_ok h
    refine AWp.regC [] [(0, ⟨[], [], [], [], .bool r3, [], [], [0, 6]⟩)] [2, 1000000, 1000006] [] ⟨17, [(2, .bool r3), (1000000, .elem 32 1 T0F 0 0), (1000006, .elem 20 1 T6F 0 0)], [], [], 0⟩ ((callP Tryz.prog true 12 [(0, .elem 32 1 T0F 0 0), (6, .elem 20 1 T6F 0 0)] [] [] [] [] [] [] (.bool r3) []) ∧ True) Tryz_mixed (by kernel_rfl) ⟨⟨fun _ => (f12_ok  r3 hr3), fun _ => trivial, .inl rfl⟩, trivial⟩ ?_
    refine thenQ_normal ?_
    have hret := Option.some.inj h
    subst hret
    refine AWp.le (Le.mk (s := ⟨17, [(2, .bool r3), (1000000, .elem 32 1 T0F 0 0), (1000006, .elem 20 1 T6F 0 0)], [], [], 0⟩) (s' := ⟨17, [(2, .bool r3)], [], [], 0⟩) rfl rfl ⟨.refl _, trivial⟩ trivial) ?_
    refine AWp.ret ?_
    refine thenQ_ret ?_
    exact bodyQ_ret _ rfl ⟨rfl, rfl⟩ rfl
  ·
    replace h := ite_fb hc1 h
    refine AWp.skip ?_
    refine thenQ_normal ?_
    refine AWp.seq ?_
    obtain ⟨r4, hr4, h⟩ := bind_ok h
    obtain ⟨r5, hr5, h⟩ := bind_ok h
    obtain ⟨r6, hr6, h⟩ := bind_ok h
    refine AWp.regC [] [(1, ⟨[vL 2 eWW (default : BitVec 16 × BitVec 16) x1], [], [], [(6001, bL 30 2 eWW (default : BitVec 16 × BitVec 16) r4)], .own 6001, [6001], [], []⟩), (2, ⟨[vL 2 eWW (default : BitVec 16 × BitVec 16) r4], [], [], [], .int .i64 r5, [], [6001], []⟩), (4, ⟨[vL 2 eWW (default : BitVec 16 × BitVec 16) x1], [], [], [], .int .i64 r6, [], [], []⟩)] [2, 1000000, 1000006] [] ⟨17, [(2, .bool (r5 == r6)), (1000000, .elem 32 1 T0F 0 0), (1000006, .elem 20 1 T6F 0 0)], [], [], 0⟩ ((callP Tryz.prog true 14 [] [] [] [] [] [vL 2 eWW (default : BitVec 16 × BitVec 16) x1] [vL 2 eWW (default : BitVec 16 × BitVec 16) x1] (.own 6001) [(6001, bL 30 2 eWW (default : BitVec 16 × BitVec 16) r4)]) ∧ (callP Tryz.prog true 13 [] [] [] [(6001, bL 30 2 eWW (default : BitVec 16 × BitVec 16) r4)] [6001] [.own 6001] [vL 2 eWW (default : BitVec 16 × BitVec 16) r4] (.int .i64 r5) []) ∧ (callP Tryz.prog true 15 [] [] [] [] [] [vL 2 eWW (default : BitVec 16 × BitVec 16) x1] [vL 2 eWW (default : BitVec 16 × BitVec 16) x1] (.int .i64 r6) []) ∧ True) Tryz_mixed (by kernel_rfl) ⟨⟨fun _ => (Spec1.ren (swapN 3000 6001) (swapN_inv 3000 6001) rfl (f14_ok x1 r4 hr4)), fun _ => ⟨.refl _, trivial⟩, .inl rfl⟩, ⟨fun _ => (f13_ok r4 r5 hr5), fun _ => ⟨.refl _, trivial⟩, .inr ⟨rfl, trivial⟩⟩, ⟨fun _ => (f15_ok x1 r6 hr6), fun _ => ⟨.refl _, trivial⟩, .inl rfl⟩, trivial⟩ ?_
    refine thenQ_normal ?_
    have hret := Option.some.inj h
    subst hret
    refine AWp.le (Le.mk (s := ⟨17, [(2, .bool (r5 == r6)), (1000000, .elem 32 1 T0F 0 0), (1000006, .elem 20 1 T6F 0 0)], [], [], 0⟩) (s' := ⟨17, [(2, .bool (r5 == r6))], [], [], 0⟩) rfl rfl ⟨.refl _, trivial⟩ trivial) ?_
    refine AWp.ret ?_
    exact bodyQ_ret _ rfl ⟨rfl, rfl⟩ rfl
end Go.Abs
